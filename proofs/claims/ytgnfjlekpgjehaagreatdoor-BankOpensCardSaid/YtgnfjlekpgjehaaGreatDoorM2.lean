/- Part of the proof: EnAppend, EnAppend2, EnGive, EnOpD, EnRegion, EnTree, EnWalk, EnUse, EnLaw, SpMath. -/
import Derived.Test.YtgnfjlekpgjehaaGreatDoorM1
import Derived.Deep.Upon
import Derived.Lib.AppendZerosOnto
import Derived.Deep.LoopGhost
import Derived.LoopN
import Derived.KernelRfl
namespace Go.Am
open Go.IntKind (wrap)
open Int (toNat)
open Go.RowKit
def El (hom:Bool) (s:Nat) (f:Nat→Nat→AV):bz:=match hom with
 | true=>.fn f
 | false=>.row (fun r=>(List.range s).map (f r))
theorem xu {β:bo} {w:World} {hom:Bool} {s:Nat} {f:Nat→Nat→AV} {r j:Nat} {v:Value} (h:Rel β w (f r j) v):Rel β w ((El hom s f) r j) v:=by
 cases hom with
 | true=>exact h
 | false=>exact eH h
def qI (H:ef) (hom isS:Bool) (s:Nat):AV→Option (Nat×bz)
 | .aG es m f=>bif isS&&Nat.beq es s then some (m,El hom s f) else none
 | .bc=>bif isS then some (0,.ba []) else none
 | .pJ=>bif isS then some (0,.ba []) else none
 | .aZ id es i m=>match H id with
  | some o=>bif isS&&(Nat.beq es s&&Nat.beq o.es s) then some (m,o.f.shift i) else none
  | none=>none
 | .nn v=>qI H hom isS s v
 | .str b=>bif !isS&&Nat.beq s 1 then some (b.size,.fn fun r _=>.int .u8 (b.data.toList.getD r 0).toNat) else none
 | _=>none
def n9 (H:ef) (s:Nat):AV→Option (List Nat×Nat×bz)
 | .bc=>some ([],0,.ba [])
 | .pJ=>some ([],0,.ba [])
 | .aZ id es 0 len=>match H id with
  | some o=>bif Nat.beq es s&&Nat.beq o.es s then some ([id],len,o.f) else none
  | none=>none
 | _=>none
def oD (P:Program) (t:TypeId):Option Bool:=match P.underlying t with
 | some (.slice _)=>some true
 | some .string=>some false
 | _=>none
def lz (s m:Nat) (l:List (List AV)):Option IntKind:=bif Nat.ble m l.length&&l.all (fun x=>Nat.beq x.length s) then gN (aO l.flatten) l.flatten.length else none
def qJ (m n:Nat) (l:List (List AV)) (r j:Nat):AV:=match l with
 | [x]=>bif Nat.ble m 1 then aO x j else aO (l.getD (r - n) []) j
 | l=>aO (l.getD (r - n) []) j
def bz.app (s n m:Nat) (f g:bz):bz:=match f,g with
 | .ba l,.ba l'=>bif Nat.beq n l.length then .ba (l++l') else .cat n (.ba l) (.ba l')
 | .ba l,.fn g=>bif Nat.beq n 0 then .fn g else match lz s n l with
  | some kk=>.fn (fun r j=>cG (Nat.blt r n) (.int kk (aE (qJ n 0 l r j))) (g (r - n) j))
  | none=>.fn (fun r j=>cG (Nat.blt r n) (aO (l.getD r []) j) (g (r - n) j))
 | .ba l,g=>bif Nat.beq n 0 then g.bare else .cat n (.ba l) g
 | .fn f,.fn g=>.fn (fun r j=>cG (Nat.blt r n) (f r j) (g (r - n) j))
 | .fn f,.ba l=>match lz s m l with
  | some kk=>.fn (fun r j=>cG (Nat.blt r n) (f r j) (.int kk (aE (qJ m n l r j))))
  | none=>.cat n (.fn f) (.ba l)
 | f,g=>.cat n f g
theorem mW {s m:Nat} {l:List (List AV)} {kk:IntKind} (h:lz s m l=some kk) {r j:Nat} (hr:r<m) (hj:j<s):∃ x,aO (l.getD r []) j=.int kk x:=by
 unfold lz at h
 obtain ⟨hc,h⟩:=bA h
 rw [Bool.and_eq_true,Nat.ble_eq,List.all_eq_true] at hc
 have hrl:r<l.length:=by omega
 have hx:=Nat.eq_of_beq_eq_true (hc.2 l[r] (List.getElem_mem hrl))
 have hj':j<l[r].length:=by omega
 have e:aO (l.getD r []) j=l[r][j]:=by grind [aO,List.getElem?_eq_getElem]
 have hm:l[r][j]∈l.flatten:=List.mem_flatten.2 ⟨l[r],List.getElem_mem hrl,List.getElem_mem hj'⟩
 grind [List.getElem_of_mem,fm,aO,List.getElem?_eq_getElem]
theorem uS {m n:Nat} {l:List (List AV)} {r j:Nat} (h1:n≤r) (h2:r<n+m):qJ m n l r j=aO (l.getD (r - n) []) j:=by
 unfold qJ
 grind [Nat.ble,Nat.ble_eq]
theorem bz.rP {β:bo} {w:World} {s n m:Nat} {f g:bz} {r j:Nat} {v:Value} (hr:r<n) (hj:j<s) (h:Rel β w (f r j) v):Rel β w ((bz.app s n m f g) r j) v:=by
 have hb:Nat.blt r n=true:=by simp_all
 have hcat:∀ f g:bz,Rel β w (f r j) v→Rel β w ((bz.cat n f g) r j) v:=fun f g h=>by
  show Rel β w (cG _ _ _) v;grind [eF]
 unfold bz.app
 split
 ·rename_i l l'
  cases hq:Nat.beq n l.length with
  | true =>
   have:=Nat.eq_of_beq_eq_true hq
   show Rel β w (aO ((l++l').getD r []) j) v
   rw [List.getD_eq_getElem?_getD,List.getElem?_append_left (by omega),← List.getD_eq_getElem?_getD]
   exact h
  | false=>grind
 ·rename_i l g
  cases hq:Nat.beq n 0 with
  | true=>simp_all
  | false =>
   show Rel β w ((match lz s n l with
    | some kk=>bz.fn (fun r j=>cG (Nat.blt r n) (.int kk (aE (qJ n 0 l r j))) (g (r - n) j))
    | none=>bz.fn (fun r j=>cG (Nat.blt r n) (aO (l.getD r []) j) (g (r - n) j))) r j) v
   have h:Rel β w (aO (l.getD r []) j) v:=h
   split
   ·rename_i kk hk
    show Rel β w (cG _ _ _) v
    rw [hb,uS (Nat.zero_le _) (by omega)]
    obtain ⟨x,hx⟩:=mW hk hr hj
    rw [hx] at h
    rw [show r - 0=r from rfl,hx]
    exact eF h
   ·show Rel β w (cG _ _ _) v;grind [eF]
 ·grind [Nat.beq,Nat.eq_of_beq_eq_true]
 ·show Rel β w (cG _ _ _) v;rw [hb];exact eF h
 ·split
  ·show Rel β w (cG _ _ _) v;rw [hb];exact eF h
  grind
 grind
theorem bz.CF (s n m:Nat) (f g:bz):(bz.app s n m f g).iX=none:=by
 unfold bz.app
 split
 ·cases Nat.beq n _<;>rfl
 ·cases Nat.beq n 0 with
  | true=>rfl
  | false=>simp only [cond_false];split<;>rfl
 ·cases Nat.beq n 0 with
  | true=>exact bz.tG _
  | false=>rfl
 ·rfl
 ·split<;>rfl
 ·rfl
theorem bz.si {β:bo} {w:World} {s n m:Nat} {f g:bz} {r j:Nat} {v:Value} (h1:n≤r) (h2:r<n+m) (hj:j<s) (h:Rel β w (g (r - n) j) v):Rel β w ((bz.app s n m f g) r j) v:=by
 have hb:Nat.blt r n=false:=by grind [Nat.blt,Nat.blt_eq]
 have hcat:∀ f g:bz,Rel β w (g (r - n) j) v→Rel β w ((bz.cat n f g) r j) v:=fun f g h=>by
  show Rel β w (cG _ _ _) v;grind [e7]
 unfold bz.app
 split
 ·rename_i l l'
  have h:Rel β w (aO (l'.getD (r - n) []) j) v:=h
  cases hq:Nat.beq n l.length with
  | true =>
   have:=Nat.eq_of_beq_eq_true hq
   show Rel β w (aO ((l++l').getD r []) j) v
   rw [List.getD_eq_getElem?_getD,List.getElem?_append_right (by omega),← List.getD_eq_getElem?_getD,← this]
   exact h
  | false=>exact hcat _ _ h
 ·rename_i l g
  cases hq:Nat.beq n 0 with
  | true =>
   have:=Nat.eq_of_beq_eq_true hq
   subst this
   exact h
  | false =>
   show Rel β w ((match lz s n l with
    | some kk=>bz.fn (fun r j=>cG (Nat.blt r n) (.int kk (aE (qJ n 0 l r j))) (g (r - n) j))
    | none=>bz.fn (fun r j=>cG (Nat.blt r n) (aO (l.getD r []) j) (g (r - n) j))) r j) v
   split
   ·show Rel β w (cG _ _ _) v;rw [hb];exact e7 h
   ·show Rel β w (cG _ _ _) v;rw [hb];exact e7 h
 ·rename_i l _ _
  cases hq:Nat.beq n 0 with
  | true =>
   have:=Nat.eq_of_beq_eq_true hq
   subst this
   show Rel β w (g.bare r j) v
   rw [bz.Hx]
   exact h
  | false=>exact hcat _ _ h
 ·show Rel β w (cG _ _ _) v;rw [hb];exact e7 h
 ·rename_i l
  have h:Rel β w (aO (l.getD (r - n) []) j) v:=h
  split
  ·rename_i kk hk
   show Rel β w (cG _ _ _) v
   rw [hb,uS h1 h2]
   obtain ⟨x,hx⟩:=mW hk (r:=r - n) (by omega) hj
   rw [hx] at h ⊢
   exact e7 h
  ·exact hcat _ _ h
 ·exact hcat _ _ h
def bz.qE (s:Nat) (e:TypeId) (n m:Nat) (f g:bz):bz:=match f with
 | .ty t f'=>bif Nat.beq t e&&(Nat.beq s 1 && !Nat.beq t nB) then .ty t (bz.app s n m f' g) else bz.app s n m f' g
 | f=>bz.app s n m f g
theorem bz.ll {s:Nat} {e:TypeId} {n m:Nat} {f g:bz} {t:TypeId} (h:(bz.qE s e n m f g).iX=some t):e=t∧s=1∧f.iX=some t∧t≠nB:=by
 unfold bz.qE at h
 split at h
 ·rename_i t' f'
  cases hb:(Nat.beq t' e&&(Nat.beq s 1 && !Nat.beq t' nB)) with
  | true =>
   rw [hb] at h
   cases h
   rw [Bool.and_eq_true,Bool.and_eq_true,Bool.not_eq_true'] at hb
   exact ⟨(Nat.eq_of_beq_eq_true hb.1).symm,Nat.eq_of_beq_eq_true hb.2.1,rfl,fun e=>by simp_all⟩
  | false=>simp_all [cond_false,bz.CF]
 grind [bz.CF]
theorem bz.ui {β:bo} {w:World} {s:Nat} {e:TypeId} {n m:Nat} {f g:bz} {r j:Nat} {v:Value} (hr:r<n) (hj:j<s) (h:Rel β w (f r j) v):Rel β w ((bz.qE s e n m f g) r j) v:=by
 unfold bz.qE
 split
 ·rename_i t' f'
  cases hb:(Nat.beq t' e&&(Nat.beq s 1 && !Nat.beq t' nB)) with
  | true=>exact bz.rP (f:=f') hr hj h
  | false=>exact bz.rP (f:=f') hr hj h
 grind [bz.rP]
theorem bz.tW {β:bo} {w:World} {s:Nat} {e:TypeId} {n m:Nat} {f g:bz} {r j:Nat} {v:Value} (h1:n≤r) (h2:r<n+m) (hj:j<s) (h:Rel β w (g (r - n) j) v):Rel β w ((bz.qE s e n m f g) r j) v:=by
 unfold bz.qE
 split
 ·rename_i t' f'
  cases hb:(Nat.beq t' e&&(Nat.beq s 1 && !Nat.beq t' nB)) with
  | true=>exact bz.si (f:=f') h1 h2 hj h
  | false=>grind [bz.si]
 grind [bz.si]
def pF (P:Program) (ρ:Operand→AV) (H:ef) (nid:Nat):Op→Option (Prop×AV×List Nat×Ob)
 | .call { callee:=.builtin .append,args:=args,argTypes:=ts }=>match args.toList,ts.toList with
  | [x,y],[t,t2]=>match P.underlying t with
   | some (.slice e)=>match P.info? e,oD P t2 with
    | some inf,some isS=>match inf.zero with
     | some z=>bif Nat.blt 0 inf.size&&(Nat.blt 0 inf.bytes&&Nat.beq (ck z).length inf.size) then
       match n9 H inf.size (ρ x),qI H (gN (aO (ck z)) inf.size).isSome isS inf.size (ρ y) with
       | some (ids,n,f),some (m,g)=>some ((n+m)*inf.bytes≤140737488355328,.aZ nid inf.size 0 (n+m),ids,⟨inf.size,n+m,true,bz.qE inf.size e n m f g⟩)
       | _,_=>none
      else none
     | none=>none
    | _,_=>none
   | _=>none
  | _,_=>none
 | _=>none
def vM (P:Program) (ρ:Operand→AV) (nid:Nat):Op→Option (Prop×AV×List Nat×Ob)
 | .call { callee:=.builtin .append,args:=args,argTypes:=ts }=>match args.toList,ts.toList with
  | [x,y],[t,t2]=>match P.underlying t,P.underlying t2,ρ x,ρ y with
   | some (.slice e),some (.int _),.bc,.int _ k=>match P.info? e with
    | some inf=>match inf.zero with
     | some z=>bif Nat.blt 0 inf.size&&(Nat.blt 0 inf.bytes&&(Nat.beq (ck z).length inf.size&&(ck z).all AV.one)) then
       some (0<k∧k*inf.bytes≤140737488355328,.aZ nid inf.size 0 k.toNat,[],⟨inf.size,k.toNat,true,lp z inf.size⟩)
      else none
     | none=>none
    | none=>none
   | _,_,_,_=>none
  | _,_=>none
 | _=>none
def sQ (P:Program) (ρ:Operand→AV) (H:ef):Op→Option (Prop×AV×List Nat×Ob)
 | .convert s d x=>bif Nat.beq s d then match P.underlying s,ρ x with
   | some (.slice e),.aZ id es i n=>match P.underlying e,H id with
    | some (.int .u8),some o=>bif Nat.beq es 1&&(Nat.beq o.es 1&&(Nat.blt 0 n&&(List.range n).all fun r=>jq .u8 (o.f (i+r) 0))) then
      some ((0:Int)≤0,.aG 1 n (fun r _=>.int .u8 (aE (o.f (i+r) 0))),[id],⟨1,0,true,.ba []⟩)
     else none
    | _,_=>none
   | _,_=>none
  else none
 | _=>none
def rm (P:Program) (ρ:Operand→AV) (H:ef) (nid:Nat) (o:Op):Option (Prop×AV×List Nat×Ob) :=
 match pF P ρ H nid o with
 | some r=>some r
 | none=>match vM P ρ nid o with
  | some r=>some r
  | none=>sQ P ρ H o
def oo (m s:Nat) (bB:Nat→Nat→Value):List Value:=(List.range (m*s)).map fun k=>bB (k / s) (k%s)
theorem ik (m s:Nat) (bB:Nat→Nat→Value):(oo m s bB).length=m*s:=by simp [oo]
theorem rH {m s:Nat} {bB:Nat→Nat→Value} {r j:Nat} (hr:r<m) (hj:j<s):(oo m s bB)[r*s+j]? = some (bB r j):=by
 have hlt:r*s+j<m*s:=by
  have:=Nat.mul_le_mul_right s (show r+1≤m by omega)
  grind
 unfold oo
 rw [List.getElem?_map,List.getElem?_range hlt]
 simp only [Option.map_some,Option.some.injEq]
 have h1:(r*s+j) / s=r:=by
  rw [Nat.add_comm,Nat.add_mul_div_right _ _ (by omega),Nat.div_eq_of_lt hj,Nat.zero_add]
 grind [Nat.add_comm,Nat.add_mul_mod_self_right,Nat.mod_eq_of_lt]
theorem nf {m s k:Nat} {bB:Nat→Nat→Value} {u:Value} (h:(oo m s bB)[k]? = some u):∃ r j,r<m∧j<s∧k=r*s+j∧u=bB r j:=by
 have hk:k<m*s:=by grind [List.getElem?_eq_some_iff,ik]
 have hs:0<s:=by grind
 refine ⟨k / s,k%s,(Nat.div_lt_iff_lt_mul hs).2 hk,Nat.mod_lt _ hs,?_,?_⟩
 ·simp [Nat.div_add_mod,Nat.mul_comm]
 grind [oo,List.getElem?_range]
section
variable {P : Program} {β : bo} {w : World} {H : ef}
theorem FD {hom isS:Bool} {s m:Nat} {g:bz} {y:AV} {vy:Value} {tx:TypeId} (hs:0<s) (hH:cN β w H) (hk:oD P tx=some isS) (hr:Rel β w y vy) (h:qI H hom isS s y=some (m,g)) :
  ∃ news,Src P s tx vy m news w∧∀ r j,r<m→j<s→∃ u,news[r*s+j]? = some u∧Rel β w (g r j) u∧u.oneCell'=true:=by
 have hkind:isS=true→∃ e',P.underlying tx=some (.slice e'):=by
  rintro rfl
  grind [oD]
 have zero:∀ (a:Option Addr) (cap:Nat),isS=true→∃ news,Src P s tx (.slice a 0 cap) 0 news w∧∀ r j,r<0→j<s→∃ u,news[r*s+j]? = some u∧Rel β w (g r j) u∧u.oneCell'=true:=by
  intro a cap hS
  obtain ⟨e',he⟩:=hkind hS
  cases a with
  | none=>exact ⟨[],Src.ofNil w he cap,fun r j h=>absurd h (by omega)⟩
  | some a=>exact ⟨[],Src.ofSlice w he a 0 cap [] (by simp) (by simp) (by simp),fun r j h=>absurd h (by omega)⟩
 have rows:∀ (b off cap:Nat) (bB:Nat→Nat→Value),isS=true→(∀ r j,r<m→j<s→w.cell? ⟨b,off+r*s+j,none⟩=some (bB r j))→(∀ r j,r<m→j<s→(bB r j).oneCell'=true) →
   (∀ r j,r<m→j<s→Rel β w (g r j) (bB r j))→∃ news,Src P s tx (.slice (some ⟨b,off,none⟩) m cap) m news w∧∀ r j,r<m→j<s→∃ u,news[r*s+j]? = some u∧Rel β w (g r j) u∧u.oneCell'=true:=by
  intro b off cap bB hS hc ho hrel
  obtain ⟨e',he⟩:=hkind hS
  refine ⟨oo m s bB,Src.ofSlice w he ⟨b,off,none⟩ m cap _ (ik ..) (fun k u hu=>?_) (fun u hu=>?_),fun r j hr' hj=>⟨bB r j,rH hr' hj,hrel r j hr' hj,ho r j hr' hj⟩⟩
  ·obtain ⟨r,j,hr',hj,rfl,rfl⟩:=nf hu
   grind [eZ,Nat.add_assoc]
  ·obtain ⟨k,hk',rfl⟩:=List.getElem_of_mem hu
   obtain ⟨r,j,hr',hj,_,e⟩:=nf (List.getElem?_eq_getElem hk')
   grind
 cases hr with
 | bc=>obtain ⟨hc,h⟩:=bA h;cases h<;>simp_all
 | @pJ a=>obtain ⟨hc,h⟩:=bA h;cases h<;>simp_all
 | @aG es n cap f b off bB he hcap hb hc ho hrr hcl =>
  replace h:=bA h;obtain ⟨hc',h⟩:=h
  rw [Bool.and_eq_true] at hc'
  have e:=Nat.eq_of_beq_eq_true hc'.2
  subst e
  cases h
  exact rows b off cap bB hc'.1 hc ho (fun r j hr hj=>xu (hrr r j hr hj))
 | @gT es cap f a _ =>
  replace h:=bA h;obtain ⟨hc',h⟩:=h
  rw [Bool.and_eq_true] at hc'
  cases h<;>simp_all
 | @aZ id es i len b n cap sz mu el h1 hn hcap hsh hz =>
  simp only [qI] at h
  cases ho:H id with
  | none=>grind
  | some o =>
   simp only [ho] at h
   replace h:=bA h;obtain ⟨hc',h⟩:=h
   simp only [Bool.and_eq_true] at hc'
   have e1:=Nat.eq_of_beq_eq_true hc'.2.1
   have e2:=Nat.eq_of_beq_eq_true hc'.2.2
   subst e1
   cases h
   obtain ⟨rfl,_,cs,el',hheap,hsz,hcells⟩:=hH.bx ho h1
   rw [e2] at hcells
   have key:∀ r j,r<m→j<es→∃ v,cs[(r+i)*es+j]? = some v∧Rel β w (o.f (r+i) j) v∧v.oneCell'=true:=fun r j hr' hj=>hcells (r+i) j (by omega) hj
   refine rows b (i*es) cap (fun r j=>cs.getD ((r+i)*es+j) undef) hc'.1 (fun r j hr' hj=>?_) (fun r j hr' hj=>?_) (fun r j hr' hj=>?_)
   ·obtain ⟨v,hv,_⟩:=key r j hr' hj
    have e:i*es+r*es+j=(r+i)*es+j:=by grind
    rw [e]
    simp [World.cell?,hheap,hv,Array.getD_eq_getD_getElem?]
   ·obtain ⟨v,hv,_,ho'⟩:=key r j hr' hj
    simp_all
   ·obtain ⟨v,hv,hr'',_⟩:=key r j hr' hj
    simp only [Array.getD_eq_getD_getElem?,hv,Option.getD_some]
    grind [bz.C8]
 | @jN id es i a h1 =>
  simp only [qI] at h
  cases ho:H id with
  | none=>grind
  | some o =>
   simp only [ho] at h
   replace h:=bA h;obtain ⟨hc',h⟩:=h
   simp only [Bool.and_eq_true] at hc'
   cases h<;>simp_all
 | @lB id es i len n cap a h1 =>
  simp only [qI] at h
  cases ho:H id with
  | none=>grind
  | some o=>exact (hH.dead ho h1).elim
 | @str b =>
  replace h:=bA h;obtain ⟨hc',h⟩:=h
  rw [Bool.and_eq_true] at hc'
  have e:=Nat.eq_of_beq_eq_true hc'.2
  subst e
  have hF:=not_true hc'.1
  subst hF
  have hu:P.underlying tx=some .string:=by grind [oD]
  cases h
  refine ⟨byteCells b,Src.ofString w hu b,fun r j hr' hj=>?_⟩
  obtain rfl:j=0:=by omega
  have hlt:r<b.data.toList.length:=by simp_all
  refine ⟨.int .u8 (b.data.toList[r]).toNat,?_,?_,rfl⟩
  ·grind [byteCells]
  ·show Rel β w (.int .u8 ((b.data.toList.getD r 0).toNat:Int)) _
   have:b.data.toList.getD r 0=b.data.toList[r]:=by grind
   rw [this]
   exact .int
 | int=>cases h
 | bool=>cases h
 | raw=>cases h
 | own=>cases h
 | ks=>cases h
 | l7=>cases h
 | lT=>cases h
 | bH=>cases h
 | agg=>cases h
 | aT=>cases h
 | fn=>cases h
 | l4=>cases h
 | nn h'=>exact FD hs hH hk h' h
 | pT=>cases h
 | bw=>cases h
theorem Lr {s n:Nat} {ids:List Nat} {f:bz} {x:AV} {vx:Value} (hH:cN β w H) (hr:Rel β w x vx) (h:n9 H s x=some (ids,n,f)) :
  (n=0∧(∃ a,vx=.slice a 0 0)∧(ids=[]∨∃ id,ids=[id]∧β.m id≠none)) ∨
  (∃ id b cap cs el nn mu sz,ids=[id]∧vx=.slice (some ⟨b,0,none⟩) n cap∧β.m id=some (.bx b nn mu)∧n≤nn∧n≤cap∧w.heap[b]? = some (.cells cs el (0,0))∧sz=cs.size∧cap*s≤sz∧(∀ t,f.iX=some t→el=t) ∧
   ∀ r j,r<n→j<s→∃ u,cs[r*s+j]? = some u∧Rel β w (f r j) u∧u.oneCell'=true):=by
 cases hr with
 | bc=>cases h<;>grind
 | pJ=>cases h<;>grind
 | @aZ id es i len b nn cap sz mu el h1 hn hcap hsh hz =>
  cases i with
  | succ i=>simp [n9] at h
  | zero =>
   simp only [n9] at h
   cases ho:H id with
   | none=>grind
   | some o =>
    simp only [ho] at h
    replace h:=bA h;obtain ⟨hc',h⟩:=h
    rw [Bool.and_eq_true] at hc'
    have e1:=Nat.eq_of_beq_eq_true hc'.1
    have e2:=Nat.eq_of_beq_eq_true hc'.2
    subst e1
    cases h
    obtain ⟨rfl,_,cs,el',hheap,hszo,hcells⟩:=hH.bx ho h1
    rw [e2] at hcells
    have hsz':sz=cs.size:=by grind [World.shape?]
    exact .inr ⟨id,b,cap,cs,el',_,mu,sz,rfl,by simp,h1,by omega,hcap,hheap,hsz',by grind,fun t h=>(hszo.ty t h).2.1,fun r j hr' hj=>hcells r j (by omega) hj⟩
 | @jN id es i a h1 =>
  cases i with
  | succ i=>simp [n9] at h
  | zero =>
   simp only [n9] at h
   grind
 | @lB id es i len nn cap a h1 =>
  cases i with
  | succ i=>simp [n9] at h
  | zero =>
   simp only [n9] at h
   cases ho:H id with
   | none=>grind
   | some o=>exact (hH.dead ho h1).elim
 | int=>cases h
 | bool=>cases h
 | str=>cases h
 | raw=>cases h
 | own=>cases h
 | ks=>cases h
 | l7=>cases h
 | lT=>cases h
 | aG=>cases h
 | gT=>cases h
 | bH=>cases h
 | agg=>cases h
 | aT=>cases h
 | fn=>cases h
 | l4=>cases h
 | nn _=>cases h
 | pT=>cases h
 | bw=>cases h
end
section
variable {K : Ctx} {ops : Array Oper} {c : Nat} {E : Nat → Prop} {β : bo} {s : dG} {a : Act} {w : World} {i : Nat} {o : Oper}
theorem cu.D2 {u:Value} {v:AV} {x:Ob} {w':World} {own:Own} {kills:List Nat} (hs:cu K ops c E β s a w) (hp:tL K ops s i o) (hE:E i) (hg:s.G o.guard=true)
  (hkills:∀ id,id∈kills→β.m id≠none∧∀ b n mu,β.m id=some (.bx b n mu)→mu=true∧∃ o,w.heap[b]? = some o∧o.isCells=true)
  (hown:∀ b n mu,own=.bx b n mu→b<w'.heap.size∧(w.heap.size≤b∨∃ id,id∈kills∧∃ n mu,β.m id=some (.bx b n mu)))
  (hos:w'.os=w.os) (htape:w'.tape=w.tape) (hout:w'.output=w.output) (hsize:w.heap.size≤w'.heap.size)
  (hblock:∀ k,k<w.heap.size→(∀ id,id∈kills→∀ n mu,β.m id≠some (.bx k n mu))→w'.heap[k]? = w.heap[k]?) (hshape:∀ k,k<w.heap.size→w'.shape? k=w.shape? k)
  (hN:∀ β':bo,β'.m (c+8*i)=some own→dF β w β' w'→(∀ id,id∈kills→β'.m id=some .dead)→(∀ id,id≠c+8*i→id∉kills→β'.m id=β.m id)→β'.F=β.F→Rel β' w' v u∧gS β' w' x (c+8*i)) :
  ∃ β',cu K ops c (less E i) β' (s.app i o ⟨v,true,[],(c+8*i,some x)::kills.map (fun id=>(id,none)),[]⟩) (a.put o.dst u) w':=by
 have hfr:β.m (c+8*i)=none:=hs.h.nA i 0 hE (by omega)
 have hnk:∀ id,id∈kills→c+8*i≠id:=fun id hid e=>(hkills id hid).1 (e▸hfr)
 let β':bo:=xn β ((c+8*i,own)::kills.map (fun id=>(id,Own.dead)))
 have lkD:∀ (l:List Nat) id,look (l.map (fun id=>(id,Own.dead))) id=if id∈l then some .dead else none:=by
  intro l id
  induction l with
  | nil=>rfl
  | cons y l ih =>
   grind [fv,id,h]
 have lkN:∀ (l:List Nat) id,look (l.map (fun id=>(id,(none:Option Ob)))) id=if id∈l then some none else none:=by
  intro l id
  induction l with
  | nil=>rfl
  | cons y l ih =>
   grind [fv,id,h]
 have m0:β'.m (c+8*i)=some own:=im (by rw [fv,if_pos rfl])
 have m1:∀ id,id∈kills→β'.m id=some .dead:=fun id hid=>im (by rw [fv,if_neg (hnk id hid),lkD,if_pos hid])
 have m2:∀ id,id≠c+8*i→id∉kills→β'.m id=β.m id:=fun id h1 h2=>dZ (by simp_all [fv]<;>omega)
 have hk:dF β w β' w':=by
  refine ⟨fun id o ho=>?_,fun b hlt hf=>hblock b hlt (fun id hid n mu hm=>?_),fun b hlt hf=>⟨hf.1,fun id n=>?_⟩,fun b e z hbs=>?_⟩
  ·by_cases h1:id∈kills
   ·exact ⟨.dead,m1 id h1,by cases o<;>trivial⟩
   ·refine ⟨o,?_,o.fh⟩
    grind
  ·have:=((hkills id hid).2 b n mu hm).1
   subst this
   exact hf.2 id n hm
  ·by_cases h0:id=c+8*i
   ·subst h0
    rw [m0]
    intro h
    injection h with h
    obtain ⟨_,h1|⟨id',hid',n',mu',hm'⟩⟩:=hown b n true h
    ·omega
    ·have:=((hkills id' hid').2 b n' mu' hm').1
     subst this
     exact hf.2 id' n' hm'
   ·by_cases h1:id∈kills
    ·grind
    ·rw [m2 id h0 h1];exact hf.2 id n
  grind [fk]
 obtain ⟨hv,hob⟩:=hN β' m0 hk m1 m2 rfl
 have hkept:Kept K.B K.G w w':=by
  refine ⟨hos,htape,hout,hsize,fun k hkB hG=>hblock k (by have:=hs.h.hB;omega) (fun id hid n mu hm=>?_),fun k hkB=>hshape k (by have:=hs.h.hB;omega),fun k o hk0 ho=>(hblock k (Array.getElem?_eq_some_iff.1 hk0).1 (fun id hid n mu hm=>?_)).trans hk0⟩
  rotate_left
  ·grind
  rcases (hs.h.live id k n mu hm).1 with h|h
  ·omega
  grind
 refine ⟨β',hs.step hp hE hg hk hkept rfl (fun id ob h=>⟨fun _=>?_,fun h=>by cases h⟩) (fun id o' hl ho hgi=>?_) (fun id o' hl ho h=>?_) ?_ (fun id h=>?_) (fun id b n mu h=>?_) (fun _=>hv) (fun h=>by cases h)⟩
 ·simp only [fv] at h
  grind
 ·simp only [fv] at hl
  by_cases e:c+8*i=id
  ·grind
  ·rw [if_neg e,lkN] at hl
   by_cases h1:id∈kills
   ·grind
   ·have hon:∀ l,fB.on ⟨v,true,[],l,[]⟩ id o'=o':=fun l=>by simp [fB.on,look,bZ]
    rw [hon]
    rcases hs.h.heap id o' ho hgi with ⟨b,g1,g2⟩|⟨g1,g2⟩
    ·refine .inl ⟨b,by grind,g2.fS hk (hblock b (hs.h.live id b _ _ g1).2 (fun id' hid' n mu hm=>h1 ?_))⟩
     rw [hs.h.inj id id' b _ _ _ _ g1 hm];omega
    ·exact .inr ⟨by grind,g2⟩
 ·simp only [fv] at hl
  grind
 ·have key:∀ q b n n' mu mu',β'.m (c+8*i)=some (.bx b n mu)→q≠c+8*i→β'.m q=some (.bx b n' mu')→False:=by
   intro q b n n' mu mu' h1 hq h2
   rw [m0] at h1
   injection h1 with h1
   by_cases hqk:q∈kills
   ·grind
   ·rw [m2 q hq hqk] at h2
    obtain ⟨_,h3|⟨id',hid',n2,mu2,hm'⟩⟩:=hown b n mu h1
    ·have:=(hs.h.live q b n' mu' h2).2;omega
    ·exact hqk (by rw [hs.h.inj q id' b _ _ _ _ h2 hm'];omega)
  intro p q b n n' mu mu' h1 h2
  by_cases e1:p=c+8*i<;>by_cases e2:q=c+8*i
  ·omega
  ·grind
  ·grind
  ·by_cases k1:p∈kills
   ·grind
   ·by_cases k2:q∈kills
    ·grind
    ·rw [m2 p e1 k1] at h1
     rw [m2 q e2 k2] at h2
     exact hs.h.inj p q b n n' mu mu' h1 h2
 ·by_cases e:id=c+8*i
  ·simp_all
  grind
 ·by_cases e:id=c+8*i
  ·subst e
   rw [m0] at h
   injection h with h
   obtain ⟨h2,h3|⟨id',hid',n2,mu2,hm'⟩⟩:=hown b n mu h
   ·have:=hs.h.hB
    omega
   ·exact ⟨(hs.h.live id' b n2 mu2 hm').1,h2⟩
  ·by_cases h1:id∈kills
   ·grind
   ·rw [m2 id e h1] at h
    have:=(hs.h.live id b n mu h).2
    exact ⟨(hs.h.live id b n mu h).1,by omega⟩
theorem cu.ya {u:Value} {v:AV} {x:Ob} {w':World} {own:Own} {kills:List Nat} (hs:cu K ops c E β s a w) (hp:tL K ops s i o) (hE:E i) (hg:s.G o.guard=true)
  (hkills:∀ id,id∈kills→β.m id≠none∧∀ b n mu,β.m id=some (.bx b n mu)→mu=true∧∃ o,w.heap[b]? = some o∧o.isCells=true)
  (hown:∀ b n mu,own=.bx b n mu→b<w'.heap.size∧(w.heap.size≤b∨∃ id,id∈kills∧∃ n mu,β.m id=some (.bx b n mu)))
  (hos:w'.os=w.os) (htape:w'.tape=w.tape) (hout:w'.output=w.output) (hsize:w.heap.size≤w'.heap.size)
  (hblock:∀ k,k<w.heap.size→(∀ id,id∈kills→∀ n mu,β.m id≠some (.bx k n mu))→w'.heap[k]? = w.heap[k]?) (hshape:∀ k,k<w.heap.size→w'.shape? k=w.shape? k)
  (hN:∀ β':bo,β'.m (c+8*i)=some own→dF β w β' w'→Rel β' w' v u∧gS β' w' x (c+8*i)) :
  ∃ β',cu K ops c (less E i) β' (s.app i o ⟨v,true,[],(c+8*i,some x)::kills.map (fun id=>(id,none)),[]⟩) (a.put o.dst u) w' :=
 hs.D2 hp hE hg hkills hown hos htape hout hsize hblock hshape (fun β' h1 h2 _ _ _=>hN β' h1 h2)
end
section
variable {K : Ctx} {ops : Array Oper} {c : Nat} {E : Nat → Prop} {β : bo} {s : dG} {a : Act} {w : World} {i : Nat} {o : Oper}
theorem vI {P:Program} {t tx ty e:TypeId} {inf:TypeInfo} (ht:P.underlying t=some (.slice e)) (hi:P.info? e=some inf) {b sLen sCap:Nat} {x:Value} {n:Nat} {news:List Value} {w':World} (hs:Src P inf.size tx x n news w)
  (hroom:sLen+n≤sCap) (hst:(storeCells ⟨b,sLen*inf.size,none⟩ news 0).run P w=.ok () w') :
  (Builtin.append_ #[t,tx] ty #[.slice (some ⟨b,0,none⟩) sLen sCap,x]).run P w=.ok (.slice (some ⟨b,0,none⟩) (sLen+n) sCap) w':=by
 rcases hs.kind with ⟨e',hk⟩|hk<;>simp [Builtin.append_,run_underlying ht,run_underlying hk,sizeOf,typeInfo,hi,hs.len,hroom,hs.cells,eZ,hst]
theorem cu.Aq {ρ:Operand→AV} {f:en} {q:Prop} {v:AV} {ids:List Nat} {x:Ob} (hs:cu K ops c E β s a w) (hp:tL K ops s i o) (hE:E i) (hg:o.guard=none) (hρ:∀ x,x∈o.op.operands→Rel β w (ρ x) (a.eval x))
  (hmt:∀ id,id∈ids→(s.H id).map Ob.mu=some true∧s.ht id=none) (h:pF K.P ρ (vH f s.H) (c+8*i) o.op=some (q,v,ids,x)) (hq:q) :
  ∃ u w',(execOp a.eval o).run K.P w=.ok (.value u) w'∧∃ β',cu K ops c (less E i) β' (s.app i o ⟨v,true,[],(c+8*i,some x)::ids.map (fun id=>(id,none)),[]⟩) (a.put o.dst u) w':=by
 have hH:=hs.ok f
 have hgt:s.G o.guard=true:=by rw [hg];rfl
 have hkills:∀ id,id∈ids→β.m id≠none∧∀ b n mu,β.m id=some (.bx b n mu)→mu=true∧∃ o,w.heap[b]? = some o∧o.isCells=true:=by
  intro id hid
  obtain ⟨h1,h2⟩:=hmt id hid
  cases ho:s.H id with
  | none=>grind
  | some ob =>
   simp only [ho,Option.map_some,Option.some.injEq] at h1
   rcases hs.h.heap id ob ho (by grind) with ⟨b,g1,cs,el,g3,_⟩|⟨g1,_⟩
   ·refine ⟨by grind,fun b' n' mu' h=>?_⟩
    rw [g1,h1] at h
    cases h;exact ⟨rfl,_,g3,rfl⟩
   grind
 obtain ⟨dst,op,ty,pos,after,g⟩:=o
 cases op<;>simp only [pF,reduceCtorEq] at h
 rename_i cl
 obtain ⟨callee,args,ts⟩:=cl
 cases callee<;>first|(cases h;done)|skip
 rename_i bi
 cases bi<;>first|(cases h;done)|skip
 obtain ⟨args⟩:=args
 obtain ⟨ts⟩:=ts
 simp only at h
 split at h
 rotate_left
 ·cases h
 rename_i xo yo t t2
 split at h
 rotate_left
 ·cases h
 rename_i e hu
 split at h
 rotate_left
 ·cases h
 rename_i inf isS hi hk
 split at h
 rotate_left
 ·cases h
 rename_i z hz
 replace h:=bA h
 obtain ⟨hc,h⟩:=h
 simp only [Bool.and_eq_true,Nat.blt_eq] at hc
 obtain ⟨hsz,hby,hzl⟩:=hc
 have hzl:=Nat.eq_of_beq_eq_true hzl
 rw [du] at hzl
 split at h
 rotate_left
 ·cases h
 rename_i ids' n ff m gg hdst hsrc
 simp only [Option.some.injEq,Prod.mk.injEq] at h
 obtain ⟨rfl,rfl,rfl,rfl⟩:=h
 have hx:=hρ xo (by simp [Op.operands,Call.operands])
 have hy:=hρ yo (by simp [Op.operands,Call.operands])
 obtain ⟨news,hSrc,hnews⟩:=FD hsz hH hk hy hsrc
 have hnl:=hSrc.newsLen
 have hexec:∀ (u:Value) (w':World),(Builtin.append_ #[t,t2] ty #[a.eval xo,a.eval yo]).run K.P w=.ok u w' →
   (execOp a.eval ⟨dst,.call ⟨.builtin .append,⟨[xo,yo]⟩,⟨[t,t2]⟩⟩,ty,pos,after,g⟩).run K.P w=.ok (.value u) w':=by
  intro u w' hr
  simp [execOp,resolve,invoke,builtin,hr,Result.andThen]
 have hmax:n+m≤140737488355328:=by
  have:=Nat.mul_le_mul_left (n+m) (show 1≤inf.bytes by omega)
  omega
 have grown:∀ (base:Option Addr) (cap:Nat) (olds:List Value),a.eval xo=.slice base n cap→cap<n+m→olds.length=n*inf.size→(Builtin.firstCells inf.size n (.slice base n cap)).run K.P w.drew=.ok olds.toArray w.drew →
   (∀ r j,r<n→j<inf.size→∃ u,olds[r*inf.size+j]? = some u∧Rel β w (ff r j) u∧u.oneCell'=true) →
   ∃ u w',(execOp a.eval ⟨dst,.call ⟨.builtin .append,⟨[xo,yo]⟩,⟨[t,t2]⟩⟩,ty,pos,after,g⟩).run K.P w=.ok (.value u) w' ∧
    ∃ β',cu K ops c (less E i) β' (s.app i ⟨dst,.call ⟨.builtin .append,⟨[xo,yo]⟩,⟨[t,t2]⟩⟩,ty,pos,after,g⟩ ⟨.aZ (c+8*i) inf.size 0 (n+m),true,[],(c+8*i,some ⟨inf.size,n+m,true,bz.qE inf.size e n m ff gg⟩)::ids'.map (fun id=>(id,none)),[]⟩) (a.put dst u) w':=by
  intro base cap olds hxe hcap hol hfc hold
  have hr:=run_append_grow_src (P:=K.P) w t t2 ty e inf z hu hi hz base n cap olds hfc (a.eval yo) m news hSrc hcap (by omega) (growslice_fits hcap hq)
  rw [← hxe] at hr
  have hge:=grownCap_ge w (n+m) cap e
  generalize hcs:(olds++news).toArray++Builtin.zeroCells z.cells (grownCap w (n+m) cap e - (n+m))=cs at hr
  have hcsz:cs.size=grownCap w (n+m) cap e*inf.size:=by
   rw [← hcs]
   simp only [Array.size_append,List.size_toArray,List.length_append,size_zeroCells,hol,hnl,hzl,← Nat.add_mul]
   grind
  have hget:∀ k,k<(n+m)*inf.size→cs[k]? = (olds++news)[k]? := by grind
  refine ⟨_,_,hexec _ _ hr,?_⟩
  have hnewblk:(w.drew.alloc (.cells cs e)).heap[w.heap.size]? = some (.cells cs e (0,0)):=heap_alloc_new w.drew _
  refine hs.ya (own:=.bx w.heap.size (n+m) true) hp hE hgt hkills (fun b n' mu' hb=>?_) rfl rfl rfl ?_ (fun k hk' _=>Below.heap_alloc w.drew _ k hk') (fun k hk'=>cA (Below.heap_alloc w.drew _ k hk')) (fun β' hm hk'=>⟨?_,?_⟩)
  ·grind
  ·simp
  ·have:=Rel.aZ (β:=β') (w:=w.drew.alloc (.cells cs e)) (id:=c+8*i) (es:=inf.size) (i:=0) (len:=n+m) (cap:=grownCap w (n+m) cap e) (sz:=cs.size) (el:=e) hm (by omega) hge (by grind [World.shape?]) (by grind)
   grind
  ·refine .inl ⟨w.heap.size,hm,cs,e,hnewblk,?_,fun r j hr' hj=>?_⟩
   ·refine ⟨?_,fun t h=>⟨(bz.ll h).2.2.2,(bz.ll h).1,fun hs=>by have:1<inf.size:=hs;have:=(bz.ll h).2.1;omega⟩⟩
    grind
   ·have hr'':r<n+m:=hr'
    have hj':j<inf.size:=hj
    have hlt:r*inf.size+j<(n+m)*inf.size:=by
     have:=Nat.mul_le_mul_right inf.size (show r+1≤n+m by omega)
     grind
    show ∃ v,cs[r*inf.size+j]? = some v∧Rel β' _ ((bz.qE inf.size e n m ff gg) r j) v∧v.oneCell'=true
    rw [hget _ hlt]
    cases hb:Nat.blt r n with
    | true =>
     rw [Nat.blt_eq] at hb
     obtain ⟨u,hu1,hu2,hu3⟩:=hold r j hb hj'
     have hlt':r*inf.size+j<olds.length:=(List.getElem?_eq_some_iff.1 hu1).1
     exact ⟨u,by grind,bz.ui hb hj' (hu2.fS hk'),hu3⟩
    | false =>
     have hb':n≤r:=by grind [Nat.lt_or_ge,h,Nat.blt_eq]
     obtain ⟨u,hu1,hu2,hu3⟩:=hnews (r - n) j (by omega) hj'
     have e1:r*inf.size+j - olds.length=(r - n)*inf.size+j:=by
      rw [hol,Nat.sub_mul]
      have:=Nat.mul_le_mul_right inf.size hb'
      omega
     have hge':olds.length≤r*inf.size+j:=by
      rw [hol]
      have:=Nat.mul_le_mul_right inf.size hb'
      omega
     exact ⟨u,by grind,bz.tW hb' hr'' hj' (hu2.fS hk'),hu3⟩
 rcases Lr hH hx hdst with ⟨rfl,⟨ad,hxe⟩,_⟩|⟨id,b,cap,cs,el,nn,mu,sz,rfl,hxe,hbk,hn,hcap,hheap,rfl,hcs,hcty,hold⟩
 ·
  rcases Nat.eq_zero_or_pos m with rfl|hm
  ·have hnil:news=[]:=List.eq_nil_of_length_eq_zero (by omega)
   subst hnil
   have hr:=run_append_nothing (P:=K.P) w t t2 ty e inf hu hi ad 0 0 (Nat.le_refl _) (a.eval yo) hSrc
   rw [← hxe] at hr
   refine ⟨_,_,hexec _ _ hr,?_⟩
   rw [hxe]
   exact hs.ya (own:=.empty) hp hE hgt hkills (fun b n mu h=>by cases h) rfl rfl rfl (Nat.le_refl _) (fun _ _ _=>rfl) (fun _ _=>rfl) (fun β' hm hk'=>⟨.jN (by grind),.inr ⟨hm,rfl⟩⟩)
  ·refine grown ad 0 [] hxe (by omega) (by simp) ?_ (fun r j h=>absurd h (by omega))
   cases ad<;>grind [run_firstCells_none,run_firstCells_some]
 ·have holdl:∀ r j,r<n→j<inf.size→cs.getD (r*inf.size+j) undef=(cs.getD (r*inf.size+j) undef)∧cs[r*inf.size+j]? = some (cs.getD (r*inf.size+j) undef):=fun r j hr' hj=>by
   obtain ⟨u,hu1,_⟩:=hold r j hr' hj
   simp [Array.getD_eq_getD_getElem?,hu1]
  by_cases hroom:n+m≤cap
  ·
   have hmu:mu=true:=((hkills id (List.mem_singleton.2 rfl)).2 b nn mu hbk).1
   subst hmu
   have hfit:n*inf.size+0+news.length≤cs.size:=by
    have:=Nat.mul_le_mul_right inf.size hroom
    grind
   obtain ⟨w',hrun,hwr⟩:=lG (P:=K.P) (off:=n*inf.size) news 0 w cs hheap hfit hSrc.one
   have hr:=vI (P:=K.P) (t:=t) (tx:=t2) (ty:=ty) hu hi (b:=b) (sLen:=n) (sCap:=cap) hSrc hroom hrun
   rw [← hxe] at hr
   have hset:=qU news 0 (n*inf.size) cs
   have hshape:=hwr.shape hheap (hset 0).1
   refine ⟨_,_,hexec _ _ hr,?_⟩
   refine hs.ya (own:=.bx b (n+m) true) hp hE hgt hkills (fun b' n' mu' hb=>?_) hwr.os hwr.tape hwr.output (by rw [hwr.size];omega) (fun k _ hk'=>hwr.other k (fun e=>?_)) (fun k _=>hshape k) (fun β' hm hk'=>⟨?_,?_⟩)
   ·cases hb
    exact ⟨by rw [hwr.size];grind,.inr ⟨id,List.mem_singleton.2 rfl,_,_,hbk⟩⟩
   ·grind
   ·have:=Rel.aZ (β:=β') (w:=w') (id:=c+8*i) (es:=inf.size) (i:=0) (len:=n+m) (cap:=cap) (sz:=cs.size) (el:=el) hm (by omega) hroom (by grind [World.shape?]) (by grind)
    grind
   ·refine .inl ⟨b,hm,_,el,hwr.at_,?_,fun r j hr' hj=>?_⟩
    ·refine ⟨?_,fun t h=>⟨(bz.ll h).2.2.2,hcty t (bz.ll h).2.2.1,fun hs=>by grind [bz.ll,h]⟩⟩
     show (n+m)*inf.size≤_
     rw [(hset 0).1]
     grind
    ·have hr'':r<n+m:=hr'
     have hj':j<inf.size:=hj
     have hlt:r*inf.size+j<(n+m)*inf.size:=by
      have:=Nat.mul_le_mul_right inf.size (show r+1≤n+m by omega)
      grind
     have hltc:r*inf.size+j<cs.size:=by grind
     show ∃ v,_[r*inf.size+j]? = some v∧Rel β' _ ((bz.qE inf.size e n m ff gg) r j) v∧v.oneCell'=true
     rw [(hset (r*inf.size+j)).2]
     cases hb:Nat.blt r n with
     | true =>
      rw [Nat.blt_eq] at hb
      have:r*inf.size+j<n*inf.size:=by
       have:=Nat.mul_le_mul_right inf.size (show r+1≤n by omega)
       grind
      rw [if_neg (by omega)]
      obtain ⟨u,hu1,hu2,hu3⟩:=hold r j hb hj'
      exact ⟨u,hu1,bz.ui hb hj' (hu2.fS hk'),hu3⟩
     | false =>
      have hb':n≤r:=by grind [Nat.lt_or_ge,h,Nat.blt_eq]
      have hnr:=Nat.mul_le_mul_right inf.size hb'
      have e2:(n+m)*inf.size=n*inf.size+m*inf.size:=Nat.add_mul ..
      rw [if_pos ⟨by omega,by omega,hltc⟩]
      obtain ⟨u,hu1,hu2,hu3⟩:=hnews (r - n) j (by omega) hj'
      have e1:r*inf.size+j - (n*inf.size+0)=(r - n)*inf.size+j:=by
       rw [Nat.sub_mul];omega
      exact ⟨u,by grind,bz.tW hb' hr'' hj' (hu2.fS hk'),hu3⟩
  ·
   refine grown (some ⟨b,0,none⟩) cap (oo n inf.size fun r j=>cs.getD (r*inf.size+j) undef) hxe (by omega) (ik ..) ?_ (fun r j hr' hj=>?_)
   ·refine run_firstCells_some w.drew inf.size n ⟨b,0,none⟩ n cap _ (ik ..) (fun k u hu'=>?_)
    obtain ⟨r,j,hr',hj,rfl,rfl⟩:=nf hu'
    have:=(holdl r j hr' hj).2
    have hd:w.drew.heap[b]? = some (.cells cs el (0,0)):=hheap
    rw [eZ]
    unfold World.cell?
    grind
   grind [rH,Array.getD_eq_getD_getElem?]
theorem cu.AR {ρ:Operand→AV} {q:Prop} {v:AV} {ids:List Nat} {x:Ob} (hs:cu K ops c E β s a w) (hp:tL K ops s i o) (hE:E i) (hg:o.guard=none) (hρ:∀ x,x∈o.op.operands→Rel β w (ρ x) (a.eval x))
  (h:vM K.P ρ (c+8*i) o.op=some (q,v,ids,x)) (hq:q) :
  ∃ u w',(execOp a.eval o).run K.P w=.ok (.value u) w'∧∃ β',cu K ops c (less E i) β' (s.app i o ⟨v,true,[],(c+8*i,some x)::ids.map (fun id=>(id,none)),[]⟩) (a.put o.dst u) w':=by
 have hgt:s.G o.guard=true:=by rw [hg];rfl
 obtain ⟨dst,op,ty,pos,after,g⟩:=o
 cases op<;>simp only [vM,reduceCtorEq] at h
 rename_i cl
 obtain ⟨callee,args,ts⟩:=cl
 cases callee<;>first|(cases h;done)|skip
 rename_i bi
 cases bi<;>first|(cases h;done)|skip
 obtain ⟨args⟩:=args
 obtain ⟨ts⟩:=ts
 simp only at h
 split at h
 rotate_left
 ·cases h
 rename_i xo yo t t2
 split at h
 rotate_left
 ·cases h
 rename_i e kn kq k hu hu2 h1 h2
 split at h
 rotate_left
 ·cases h
 rename_i inf hi
 split at h
 rotate_left
 ·cases h
 rename_i z hz
 replace h:=bA h
 obtain ⟨hc,h⟩:=h
 simp only [Bool.and_eq_true,Nat.blt_eq] at hc
 obtain ⟨hsz,hby,hzl,hall⟩:=hc
 have hzl:=Nat.eq_of_beq_eq_true hzl
 rw [du] at hzl
 simp only [Option.some.injEq,Prod.mk.injEq] at h
 obtain ⟨rfl,rfl,rfl,rfl⟩:=h
 obtain ⟨hk0,hk1⟩:=hq
 have hx:=hρ xo (by simp [Op.operands,Call.operands])
 have hy:=hρ yo (by simp [Op.operands,Call.operands])
 rw [h1] at hx
 rw [h2] at hy
 have hxe:a.eval xo=.slice none 0 0:=by cases hsx:a.eval xo<;>rw [hsx] at hx<;>cases hx;rfl
 have hye:=bq hy
 obtain ⟨m,rfl⟩:∃ m:Nat,k=m:=⟨k.toNat,by omega⟩
 have hm0:0<m:=by omega
 have hmb:m*inf.bytes≤140737488355328:=by omega
 have hm1:m≤140737488355328:=by
  have:=Nat.mul_le_mul_left m (show 1≤inf.bytes by omega)
  omega
 have hr:=Lib.run_append_grow_zeros (P:=K.P) w t t2 ty e inf z kq kn hu hu2 hi hz none 0 0 [] (run_firstCells_none w.drew inf.size 0 0 0) m hm0 hsz (by omega) (by omega) (by omega) (growslice_fits (by omega) (by grind))
 rw [← hxe,← hye] at hr
 rw [Nat.zero_add] at hr
 rw [Int.toNat_natCast]
 have hge:=grownCap_ge w m 0 e
 generalize hcs:(([]:List Value).toArray++Builtin.zeroCells z.cells m++Builtin.zeroCells z.cells (grownCap w m 0 e - m))=cs at hr
 have hcsz:cs.size=grownCap w m 0 e*inf.size:=by
  rw [← hcs]
  simp only [Array.size_append,List.size_toArray,List.length_nil,size_zeroCells,hzl,Nat.zero_add,← Nat.add_mul]
  grind
 have hget:∀ k,k<m*inf.size→cs[k]? = (Builtin.zeroCells z.cells m)[k]? := by grind [Array.getElem?_append_left,size_zeroCells]
 have hexec:(execOp a.eval ⟨dst,.call ⟨.builtin .append,⟨[xo,yo]⟩,⟨[t,t2]⟩⟩,ty,pos,after,g⟩).run K.P w=.ok (.value (.slice (some ⟨w.heap.size,0,none⟩) m (grownCap w m 0 e))) (w.drew.alloc (.cells cs e)):=by
  simp [execOp,resolve,invoke,builtin,hr,Result.andThen]
 refine ⟨_,_,hexec,?_⟩
 have hnewblk:(w.drew.alloc (.cells cs e)).heap[w.heap.size]? = some (.cells cs e (0,0)):=heap_alloc_new w.drew _
 refine hs.ya (own:=.bx w.heap.size m true) (kills:=[]) hp hE hgt (fun id h=>by cases h) (fun b n' mu' hb=>?_) rfl rfl rfl ?_ (fun k hk' _=>Below.heap_alloc w.drew _ k hk') (fun k hk'=>cA (Below.heap_alloc w.drew _ k hk')) (fun β' hm hk'=>⟨?_,?_⟩)
 ·grind
 ·simp
 ·have:=Rel.aZ (β:=β') (w:=w.drew.alloc (.cells cs e)) (id:=c+8*i) (es:=inf.size) (i:=0) (len:=m) (cap:=grownCap w m 0 e) (sz:=cs.size) (el:=e) hm (by omega) hge (by grind [World.shape?]) (by grind)
  grind
 ·refine .inl ⟨w.heap.size,hm,cs,e,hnewblk,?_,fun r j hr' hj=>?_⟩
  ·refine ⟨?_,fun t h=>by grind [pH,h]⟩
   simp_all [Nat.mul_le_mul_right]
  ·have hr'':r<m:=hr'
   have hj':j<inf.size:=hj
   have hlt:r*inf.size+j<m*inf.size:=by
    have:=Nat.mul_le_mul_right inf.size (show r+1≤m by omega)
    grind
   have hjz:j<z.cells.size:=by omega
   have hjl:j<(ck z).length:=by simp_all
   have hrr:Rel β' (w.drew.alloc (.cells cs e)) (aO (ck z) j) z.cells[j]:=by grind [gK,aO]
   have hval:(Builtin.zeroCells z.cells m)[r*inf.size+j]? = some z.cells[j]:=by simp_all [Builtin.zeroCells,Option.some.injEq,Nat.add_comm,Nat.add_mul_mod_self_right,Nat.mod_eq_of_lt,getElem!_pos]
   grind [oe,jv,aO,ck,List.all_eq_true,List.getElem_mem]
theorem n5 (w:World) (b off n:Nat) (hn:n≠0) (k:Nat) (hk:k≠b):(w.freeze ⟨b,off,none⟩ n).heap[k]? = w.heap[k]? := by
 unfold World.freeze
 rw [if_neg hn]
 simp [Array.getElem?_modify,Ne.symm hk]
theorem zO (w:World) (b off n:Nat) (hn:n≠0) {cs:Array Value} {el:TypeId} (h:w.heap[b]? = some (.cells cs el (0,0))):(w.freeze ⟨b,off,none⟩ n).heap[b]? = some (.cells cs el (off,off+n)):=by
 unfold World.freeze
 rw [if_neg hn]
 simp [Array.getElem?_modify,h]
theorem cu.marked {ρ:Operand→AV} {f:en} {q:Prop} {v:AV} {ids:List Nat} {x:Ob} (hs:cu K ops c E β s a w) (hp:tL K ops s i o) (hE:E i) (hg:o.guard=none) (hρ:∀ x,x∈o.op.operands→Rel β w (ρ x) (a.eval x))
  (hmt:∀ id,id∈ids→(s.H id).map Ob.mu=some true∧s.ht id=none) (h:sQ K.P ρ (vH f s.H) o.op=some (q,v,ids,x)) :
  ∃ u w',(execOp a.eval o).run K.P w=.ok (.value u) w'∧∃ β',cu K ops c (less E i) β' (s.app i o ⟨v,true,[],(c+8*i,some x)::ids.map (fun id=>(id,none)),[]⟩) (a.put o.dst u) w':=by
 have hH:=hs.ok f
 have hgt:s.G o.guard=true:=by rw [hg];rfl
 obtain ⟨dst,op,ty,pos,after,g⟩:=o
 cases op<;>simp only [sQ,reduceCtorEq] at h
 rename_i t d ax
 have htd:=Nat.eq_of_beq_eq_true (bA h).1
 replace h:=(bA h).2
 subst htd
 split at h
 rotate_left
 ·cases h
 rename_i e id es ii n hu hav
 split at h
 rotate_left
 ·cases h
 rename_i ob he ho
 have hc:=(bA h).1
 replace h:=(bA h).2
 simp only [Bool.and_eq_true,Nat.blt_eq] at hc
 obtain ⟨hes,hoe,hn0,hall⟩:=hc
 have hes:=Nat.eq_of_beq_eq_true hes
 have hoe:=Nat.eq_of_beq_eq_true hoe
 subst hes
 simp only [Option.some.injEq,Prod.mk.injEq] at h
 obtain ⟨_,rfl,rfl,rfl⟩:=h
 have hx:=hρ ax (by simp [Op.operands])
 rw [hav] at hx
 obtain ⟨hm1,hm2⟩:=hmt id (List.mem_singleton.2 rfl)
 have hmu:∀ b n mu,β.m id=some (.bx b n mu)→mu=true:=fun b n' mu hb=>by
  cases hso:s.H id with
  | none=>simp [hso] at hm1
  | some ob' =>
   simp only [hso,Option.map_some,Option.some.injEq] at hm1
   rcases hs.h.heap id ob' hso (by rw [hm2];rfl) with ⟨b',g1,_⟩|⟨g1,_⟩
   ·rw [g1,hm1] at hb;cases hb;rfl
   ·rw [g1] at hb;cases hb
 generalize hax:a.eval ax=y at hx
 cases hx with
 | jN=>omega
 | lB hd=>exact (hH.dead ho hd).elim
 | @aZ _ _ _ _ b nn cap sz mu el hb hn hcap hsh hsz =>
  have:=hmu b nn mu hb
  subst this
  obtain ⟨rfl,_,cs,el',hcs,hszk,hcell⟩:=hH.bx ho hb
  have hsh2:w.shape? b=some (el',cs.size):=by unfold World.shape?;rw [hcs]
  have hlive:=(hs.h.live id b _ _ hb)
  have hrun:(execOp a.eval ⟨dst,.convert t t ax,ty,pos,after,g⟩).run K.P w=.ok (.value (.slice (some ⟨b,ii*1,none⟩) n cap)) (w.freeze ⟨b,cs.size,none⟩ 1):=by
   simp [execOp,hax,convert,run_underlying hu,run_underlying he,markStringish,hsh2]
  refine ⟨_,_,hrun,?_⟩
  have hb':=zO w b cs.size 1 (by decide) hcs
  refine hs.D2 (own:=.empty) (kills:=[id]) hp hE hgt (fun id' hid=>?_) (fun b n' mu' hb=>by cases hb) ?_ ?_ ?_ ?_ (fun k hk' hno=>n5 w b _ 1 (by decide) k (fun e=>hno id (List.mem_singleton.2 rfl) _ _ (e▸hb))) (fun k hk'=>?_) (fun β' hm hk' uc hold hF=>⟨?_,.inr ⟨hm,rfl⟩⟩)
  ·obtain rfl:=List.mem_singleton.1 hid
   refine ⟨by rw [hb];simp,fun b2 n2 mu2 h2=>?_⟩
   rw [hb] at h2;cases h2
   exact ⟨rfl,_,hcs,rfl⟩
  ·unfold World.freeze;rw [if_neg (by decide)]
  ·unfold World.freeze;rw [if_neg (by decide)]
  ·unfold World.freeze;rw [if_neg (by decide)]
  ·unfold World.freeze;rw [if_neg (by decide)];simp
  ·by_cases e:k=b
   ·subst e
    unfold World.shape?
    rw [hb',hcs]
   ·unfold World.shape?
    rw [n5 w b _ 1 (by decide) k e]
  ·have hfree:β'.free b:=by
    refine ⟨?_,fun id' n' hl=>?_⟩
    ·rw [hF,hs.h.bF]
     intro hFb
     obtain ⟨g1,g2⟩:=hs.h.hF b hFb
     rcases hlive.1 with h|h
     ·omega
     ·exact g2 h
    ·by_cases e1:id'=id
     ·subst e1;rw [uc id' (List.mem_singleton.2 rfl)] at hl;cases hl
     ·by_cases e2:id'=c+8*i
      ·subst e2;rw [hm] at hl;cases hl
      ·rw [hold id' e2 (by simp [e1])] at hl
       exact e1 (hs.h.inj id' id b _ _ _ _ hl hb)
   have hval:∀ r,r<n→∃ z,ob.f (ii+r) 0=.int .u8 z∧cs[ii+r]? = some (.int .u8 z):=fun r hr=>by
    have h1:=List.all_eq_true.1 hall r (List.mem_range.2 hr)
    unfold jq at h1
    split at h1
    ·rename_i k z hz
     rw [of_decide_eq_true h1] at hz
     obtain ⟨vv,j1,j2,_⟩:=hcell (ii+r) 0 (by omega) (by omega)
     rw [hz] at j2
     rw [bq j2,hoe] at j1
     refine ⟨z,hz,?_⟩
     simpa using j1
    ·cases h1
   refine .aG (fun r _=>.int .u8 (aE (ob.f (ii+r) 0))) (by omega) hcap hfree (fun r j hr hj=>?_) (fun _ _ _ _=>rfl) (fun _ _ _ _=>.int) (fun _ _ _ _=>.int)
   obtain rfl:j=0:=by omega
   obtain ⟨z,hz,hcz⟩:=hval r hr
   unfold World.cell?
   rw [hb']
   have e3:ii*1+r*1+0=ii+r:=by omega
   simp only [e3,hz,aE]
   simpa using hcz
theorem cu.appended {ρ:Operand→AV} {f:en} {q:Prop} {v:AV} {ids:List Nat} {x:Ob} (hs:cu K ops c E β s a w) (hp:tL K ops s i o) (hE:E i) (hg:o.guard=none) (hρ:∀ x,x∈o.op.operands→Rel β w (ρ x) (a.eval x))
  (hmt:∀ id,id∈ids→(s.H id).map Ob.mu=some true∧s.ht id=none) (h:rm K.P ρ (vH f s.H) (c+8*i) o.op=some (q,v,ids,x)) (hq:q) :
  ∃ u w',(execOp a.eval o).run K.P w=.ok (.value u) w'∧∃ β',cu K ops c (less E i) β' (s.app i o ⟨v,true,[],(c+8*i,some x)::ids.map (fun id=>(id,none)),[]⟩) (a.put o.dst u) w':=by
 unfold rm at h
 cases h0:pF K.P ρ (vH f s.H) (c+8*i) o.op with
 | some r=>rw [h0] at h;exact hs.Aq hp hE hg hρ hmt (h0.trans h) hq
 | none =>
  rw [h0] at h
  simp only at h
  cases h1:vM K.P ρ (c+8*i) o.op with
  | some r=>rw [h1] at h;exact hs.AR hp hE hg hρ (h1.trans h) hq
  | none=>rw [h1] at h;exact hs.marked hp hE hg hρ hmt h
end
def gD:List Nat→Nat→Nat→Option Nat
 | [],_,_=>none
 | g::l,k,id=>bif Nat.beq g id then some k else gD l (k+1) id
theorem lZ {l:List Nat} {k id p:Nat} (h:gD l k id=some p):k≤p∧l[p - k]? = some id:=by
 induction l generalizing k with
 | nil=>cases h
 | cons g l ih =>
  simp only [gD] at h
  cases hb:Nat.beq g id with
  | true =>
   simp_all
  | false =>
   grind
def jr:List Nat→Bool
 | []=>true
 | g::l => !bZ l g&&jr l
theorem kI {l:List Nat} (h:jr l=true):∀ (p q:Nat) x,l[p]? = some x→l[q]? = some x→p=q:=by
 induction l with
 | nil=>simp
 | cons g l ih =>
  rw [jr,Bool.and_eq_true] at h
  grind [not_true,e8,absurd,List.mem_of_getElem?]
def eN (gids:List Nat) (H:ef):ef:=fun id=>bif bZ gids id then none else H id
def iS (gids:List Nat) (H:ef):List Ob:=gids.map fun id=>match H id with
 | some o=>wk (gD gids 0) (eN gids H) o
 | none=>⟨0,0,true,.ba []⟩
def p7 (gids:List Nat) (nid k:Nat):Nat:=match gids[k]? with
 | some id=>id
 | none=>nid+(k - gids.length)
def gO (gids:List Nat) (nid:Nat):Nat→Option Nat:=fun k=>bif Nat.blt k (gids.length+8) then some (p7 gids nid k) else none
def FJ:ef:=fun _=>none
def jS (gids:List Nat) (nid:Nat) (obs':List (Option Ob)):List (Nat×Option Ob) :=
 (List.range obs'.length).map fun k=>(p7 gids nid k,(obs'.getD k none).map (wk (gO gids nid) FJ))
theorem wD {α:Type} (id:Nat→Nat) (x:Nat→α) (n:Nat):∀ j,(look ((List.range n).map fun k=>(id k,x k)) j=none∧∀ k,k<n→id k≠j)∨(∃ k,k<n∧id k=j∧look ((List.range n).map fun k=>(id k,x k)) j=some (x k)):=by
 have key:∀ (l:List Nat) j,(look (l.map fun k=>(id k,x k)) j=none∧∀ k,k∈l→id k≠j)∨(∃ k,k∈l∧id k=j∧look (l.map fun k=>(id k,x k)) j=some (x k)):=by
  intro l j
  induction l with
  | nil=>exact .inl ⟨rfl,fun k h=>by cases h⟩
  | cons y l ih =>
   rw [List.map_cons,fv]
   grind
 grind
section
variable {K : Ctx} {ops : Array Oper} {c : Nat} {E : Nat → Prop} {β : bo} {s : dG} {a : Act} {w : World} {i : Nat} {o : Oper}
theorem cu.given {f:en} {fn:FuncId} {avs:List AV} {vs:Array Value} {gids zids:List Nat} {r:AV} {obs':List (Option Ob)} {Q:World→Value→Prop} (hs:cu K ops c E β s a w) (hp:tL K ops s i o) (hE:E i) (hgt:s.G o.guard=true)
  (hrel:eR β w avs vs) (hnd:jr gids=true) (hgm:∀ id,id∈gids→bZ f.rd id=true∧(s.H id).map Ob.mu=some true∧s.ht id=none)
  (hz:∀ id,vH f s.H id≠none→bZ gids id=false→bZ zids id=true) (hl:gids.length≤obs'.length∧obs'.length≤gids.length+8)
  (hG:bC K.P K.gl fn (iS gids (vH f s.H)) (avs.map (mapA (gD gids 0) 9 (eN gids (vH f s.H)))) r obs')
  (hQ:∀ u w' β',cu K ops c (less E i) β' (s.app i o ⟨mapA (gO gids (c+8*i)) 9 FJ r,true,[],jS gids (c+8*i) obs',zids⟩) (a.put o.dst u) w'→Q w' u) :
  Calls K.P fn vs w fun e w'=>∃ u,e=.returned u∧Q w' u:=by
 have hH:=hs.ok f
 have hgiv:∀ id,id∈gids→∃ ob,vH f s.H id=some ob∧gS β w ob id∧ob.mu=true:=by
  intro id hid
  obtain ⟨h1,h2,h3⟩:=hgm id hid
  cases ho:s.H id with
  | none=>grind
  | some ob =>
   simp only [ho,Option.map_some,Option.some.injEq] at h2
   have e:ob.seen=ob:=by cases ob<;>grind [Ob.seen]
   exact ⟨ob,by grind [vH],hs.h.heap id ob ho (by rw [h3];rfl),h2⟩
 have fF:∀ id,id∈gids→β.m id≠none∧∀ b n mu,β.m id=some (.bx b n mu)→mu=true:=by
  intro id hid
  obtain ⟨ob,_,h1,h2⟩:=hgiv id hid
  rcases h1 with ⟨b,g1,_⟩|⟨g1,_⟩
  ·grind
  grind
 have hnew:∀ q,q<8→β.m (c+8*i+q)=none:=fun q hq=>hs.h.nA i q hE hq
 have hnd':=kI hnd
 let βz:=fT zids β
 let bm:Nat→Option Own:=fun k=>match gids[k]? with|some id=>β.m id|none=>none
 let F':Nat→Prop:=fun b=>¬βz.free b∧¬∃ k n mu,bm k=some (.bx b n mu)
 let βc:bo:=⟨bm,F'⟩
 have bm_some:∀ {k o},bm k=some o→∃ id,gids[k]? = some id∧β.m id=some o:=by grind
 have bm_at:∀ {k id},gids[k]? = some id→bm k=β.m id:=fun {k id} h=>by grind
 have zfree:∀ b,β.free b→βz.free b:=by
  intro b hf
  refine ⟨hf.1,fun id n h=>?_⟩
  obtain ⟨mu',h1,h2⟩:=dm h
  have:mu'=true:=by grind
  subst this
  exact hf.2 id n h1
 have ownF:∀ id b n mu,β.m id=some (.bx b n mu)→¬β.F b:=by
  intro id b n mu hm hF
  rw [hs.h.bF] at hF
  obtain ⟨h1,h2⟩:=hs.h.hF b hF
  rcases (hs.h.live id b n mu hm).1 with h|h
  ·omega
  grind
 have h1:∀ id k,gD gids 0 id=some k→βc.m k=β.m id:=fun id k h=>by
  obtain ⟨_,h2⟩:=lZ h
  grind
 have h2:∀ b,β.free b→βc.free b:=by
  intro b hf
  refine ⟨fun hF=>hF.1 (zfree b hf),fun k n h=>?_⟩
  obtain ⟨id,_,hm⟩:=bm_some h
  exact hf.2 id n hm
 have h3:∀ id ob b n mu,eN gids (vH f s.H) id=some ob→β.m id=some (.bx b n mu)→βc.free b:=by
  intro id ob b n mu ho hm
  unfold eN at ho
  cases hmem:bZ gids id with
  | true=>grind
  | false =>
   simp only [hmem,cond_false] at ho
   have hzi:=hz id (by grind) hmem
   have hngid:id∉gids:=fun h=>by grind [e8,h]
   have hzf:βz.free b:=by
    refine ⟨ownF id b n mu hm,fun id' n' h'=>?_⟩
    obtain ⟨mu',g1,g2⟩:=dm h'
    have:=hs.h.inj id' id b n' n mu' mu g1 hm
    grind
   refine ⟨fun hF=>hF.1 hzf,fun k n' h=>?_⟩
   obtain ⟨id',hk,hm'⟩:=bm_some h
   have:=hs.h.inj id' id b n' n _ mu hm' hm
   grind
 have hHr:cN β w (eN gids (vH f s.H)):=by
  intro id ob hid hne
  unfold eN at hid
  cases hmem:bZ gids id with
  | true=>grind
  | false=>simp only [hmem,cond_false] at hid;exact hH id ob hid hne
 have hGiven:CM βc w (iS gids (vH f s.H)):=by
  refine ⟨fun k ob hk=>?_,fun k hk=>?_,fun p q b n n' mu mu' e1 e2=>?_,fun k b n mu h=>?_⟩
  ·unfold iS at hk
   rw [List.getElem?_map] at hk
   cases hgk:gids[k]? with
   | none=>grind
   | some id =>
    simp only [hgk,Option.map_some,Option.some.injEq] at hk
    grind [id,List.mem_of_getElem?,jV,h]
  ·grind [List.getElem?_eq_none,iS]
  ·obtain ⟨x,g1,g2⟩:=bm_some e1
   obtain ⟨y,g3,g4⟩:=bm_some e2
   have:=hs.h.inj x y b n n' mu mu' g2 g4
   grind
  ·obtain ⟨id,g1,g2⟩:=bm_some h
   exact ⟨(hs.h.live id b n mu g2).2,fun hF=>hF.2 ⟨k,n,mu,h⟩⟩
 have hF'lt:∀ b,βc.F b→b<w.heap.size:=by
  intro b hb
  apply Classical.byContradiction
  intro hge
  apply hb.1
  refine ⟨fun hF=>?_,fun id n h=>?_⟩
  ·have hF':β.F b:=hF
   rw [hs.h.bF] at hF'
   have:=(hs.h.hF b hF').1
   have:=hs.h.hB
   omega
  ·obtain ⟨mu',g1,_⟩:=dm h
   have:=(hs.h.live id b n _ g1).2
   omega
 have hglob:mc K.gl βc w:=fun g m h hgl'=>(hs.h.iW g m h hgl').fQ h2 (by
  obtain ⟨_,_,_,_,_,_,_,_,hcl,_⟩:=dd (hs.h.iW g m h hgl').rel
  exact .bH hcl)
 have hargs:eR βc w (avs.map (mapA (gD gids 0) 9 (eN gids (vH f s.H)))) vs:=by
  obtain ⟨e1,e2⟩:=fg hrel.len hrel.rel (fun u v hr=>kH hHr (fun id k h _=>h1 id k h) h2 h3 9 u v hr)
  exact ⟨e1,e2⟩
 refine (hG.2 βc w vs hF'lt hGiven hglob hargs).mono fun e w' hh=>?_
 obtain ⟨u,β',he,hkept,hA,hr⟩:=hh
 refine ⟨u,he,?_⟩
 let σ:=p7 gids (c+8*i)
 have σ_lt:∀ {k id},gids[k]? = some id→σ k=id:=fun {k id} h=>by grind [p7,h]
 have σ_ge:∀ {k},gids.length≤k→σ k=c+8*i+(k - gids.length):=fun {k} h=>by grind [p7,List.getElem?_eq_none,h]
 have σ_cases:∀ k,(∃ id,gids[k]? = some id∧σ k=id)∨(gids.length≤k∧σ k=c+8*i+(k - gids.length)):=by grind
 have σ_inj:∀ p q,p<gids.length+8→q<gids.length+8→σ p=σ q→p=q:=by grind
 let β3:bo:=⟨fun id=>if h:∃ k,k<gids.length+8∧σ k=id then β'.m h.choose else βz.m id,β.F⟩
 have m3:∀ k,k<gids.length+8→β3.m (σ k)=β'.m k:=by
  intro k hk
  have hex:∃ q,q<gids.length+8∧σ q=σ k:=⟨k,hk,rfl⟩
  grind
 have m3':∀ id,(¬∃ k,k<gids.length+8∧σ k=id)→β3.m id=βz.m id:=fun id h=>by grind
 have split3:∀ id,(∃ k,k<gids.length+8∧id=σ k∧β3.m id=β'.m k)∨((∀ k,k<gids.length+8→σ k≠id)∧β3.m id=βz.m id):=by
  intro id
  by_cases h:∃ k,k<gids.length+8∧σ k=id
  ·grind
  grind
 have notGid:∀ id,(∀ k,k<gids.length+8→σ k≠id)→id∉gids:=by
  intro id h hm
  obtain ⟨k,hk,e⟩:=List.getElem_of_mem hm
  exact h k (by omega) (σ_lt (by grind))
 have blk:∀ b,qe βc b→∃ id n,id∈gids∧β.m id=some (.bx b n true):=by
  rintro b ⟨k,n,mu,hm⟩
  grind
 have hk:dF β w β3 w':=by
  refine ⟨fun id o' ho=>?_,fun b hlt hf=>hkept.block b hlt (fun hb=>?_),fun b hlt hf=>⟨hf.1,fun id n h=>?_⟩,fun b e z hbs=>?_⟩
  ·rcases split3 id with ⟨k,hk8,e,em⟩|⟨hno,em⟩
   ·rcases σ_cases k with ⟨x,hx,ex⟩|⟨hx,ex⟩
    ·have:id=x:=by omega
     subst this
     obtain ⟨o2,g1,g2⟩:=hA.later k o' (by grind)
     grind
    grind
   ·rw [em]
    exact (jU (w:=w) zids).ids id o' ho
  ·obtain ⟨id,n,_,hm⟩:=blk b hb
   exact hf.2 id n hm
  ·rcases split3 id with ⟨k,hk8,e,em⟩|⟨hno,em⟩
   ·rw [em] at h
    obtain ⟨_,g|g⟩:=hA.live k b n true h
    ·omega
    ·obtain ⟨id',n',_,hm⟩:=blk b g
     exact hf.2 id' n' hm
   ·rw [em] at h
    exact (zfree b hf).2 id n h
  ·rw [hkept.shape b (fk hbs)];omega
 have f3:∀ b,β'.free b→β3.free b:=by
  intro b hf
  have hcase:βz.free b∨qe βc b:=by
   have hnF:¬F' b:=by have:=hf.1;rw [hA.F] at this;omega
   by_cases hz1:βz.free b
   ·grind
   ·by_cases hz2:∃ k n mu,bm k=some (.bx b n mu)
    ·exact .inr hz2
    grind
  refine ⟨?_,fun id n h=>?_⟩
  ·rcases hcase with h|h
   ·exact h.1
   grind
  ·rcases split3 id with ⟨k,hk8,e,em⟩|⟨hno,em⟩
   ·rw [em] at h;exact hf.2 k n h
   ·rw [em] at h
    rcases hcase with h'|h'
    ·exact h'.2 id n h
    ·obtain ⟨id',n',hid',hm⟩:=blk b h'
     obtain ⟨mu',g1,_⟩:=dm h
     have:=hs.h.inj id id' b _ _ _ _ g1 hm
     grind
 have hHn:cN β' w' FJ:=fun id ob h=>by cases h
 have h1':∀ k id,gO gids (c+8*i) k=some id→β3.m id=β'.m k:=by
  intro k id h
  unfold gO at h
  cases hb:Nat.blt k (gids.length+8) with
  | false=>grind
  | true =>
   simp only [hb,cond_true,Option.some.injEq] at h
   rw [Nat.blt_eq] at hb
   rw [← h]
   grind
 have h3':∀ (id:Nat) (ob:Ob) b n mu,FJ id=some ob→β'.m id=some (.bx b n mu)→β3.free b:=fun id ob b n mu h=>by cases h
 have hlook:∀ j,(look (jS gids (c+8*i) obs') j=none∧∀ k,k<obs'.length→σ k≠j)∨(∃ k,k<obs'.length∧σ k=j∧look (jS gids (c+8*i) obs') j=some ((obs'.getD k none).map (wk (gO gids (c+8*i)) FJ))) :=
  wD σ (fun k=>(obs'.getD k none).map (wk (gO gids (c+8*i)) FJ)) obs'.length
 have hkept':Kept K.B K.G w w':=hkept.mono hs.h.hB (fun k hkB hb=>by
  obtain ⟨id,n,_,hm⟩:=blk k hb
  rcases (hs.h.live id k n true hm).1 with h|h
  ·omega
  omega)
 refine hQ u w' β3 (hs.step hp hE hgt hk hkept' rfl (fun id ob h=>⟨fun _=>?_,fun h=>by cases h⟩) (fun id o' hl' ho hgi=>?_) (fun id o' hl' ho h=>?_) ?_ (fun id h=>?_) (fun id b n mu h=>?_) (fun _=>?_) (fun h=>by cases h))
 ·rcases hlook id with ⟨e,_⟩|⟨k,hk',ek,e⟩
  ·grind
  ·rw [e] at h
   simp only [Option.some.injEq,Option.map_eq_some_iff] at h
   obtain ⟨ob0,g1,rfl⟩:=h
   have hok:obs'[k]? = some (some ob0):=by grind
   refine jV hHn (fun id k h _=>h1' id k h) f3 h3' ?_ (hA.holds k ob0 hok)
   rw [← ek]
   grind
 ·rcases hlook id with ⟨_,e⟩|⟨k,hk',ek,e⟩
  rotate_left
  ·grind
  have hHo:=hs.h.heap id o' ho hgi
  have hne:β.m id≠none:=by rcases hHo with ⟨b,g,_⟩|⟨g,_⟩<;>(grind)
  have hno:∀ k,k<gids.length+8→σ k≠id:=by grind
  have em:β3.m id=βz.m id:=by grind
  rcases hHo with ⟨b,g1,g2⟩|⟨g1,g2⟩
  ·refine .inl ⟨b,by rw [em];exact iT g1,?_⟩
   have hb':w'.heap[b]? = w.heap[b]? := hkept.block b (hs.h.live id b _ _ g1).2 (fun hb=>by
    obtain ⟨id',n',hid',hm⟩:=blk b hb
    have:=hs.h.inj id id' b _ _ _ _ g1 hm
    subst this
    exact notGid id hno hid')
   have:=g2.fS hk hb'
   simp only [fB.on,look]
   exact this
  ·exact .inr ⟨by grind [fT,id],g2⟩
 ·rcases hlook id with ⟨_,e⟩|⟨k,hk',ek,e⟩
  rotate_left
  ·grind
  rcases split3 id with ⟨k,hk8,e',em⟩|⟨hno,em⟩
  ·rw [em]
   exact hA.none k (Nat.le_of_not_lt fun hlt=>e k hlt e'.symm)
  grind [iB,h]
 ·intro p q b n n' mu mu' e1 e2
  have mix:∀ k id m1 u1 m2 u2,β'.m k=some (.bx b m1 u1)→(∀ k,k<gids.length+8→σ k≠id)→βz.m id=some (.bx b m2 u2)→False:=by
   intro k id m1 u1 m2 u2 g1 hno g2
   obtain ⟨_,g3,_⟩:=dm g2
   obtain ⟨_,g|g⟩:=hA.live k b m1 u1 g1
   ·have:=(hs.h.live id b _ _ g3).2;omega
   ·obtain ⟨id',n',hid',hm⟩:=blk b g
    have:=hs.h.inj id id' b _ _ _ _ g3 hm
    subst this
    exact notGid id hno hid'
  rcases split3 p with ⟨k,hk8,ep,emp⟩|⟨hnp,emp⟩<;>rcases split3 q with ⟨k',hk8',eq,emq⟩|⟨hnq,emq⟩
  ·rw [emp] at e1;rw [emq] at e2
   rw [ep,eq,hA.inj k k' b n n' mu mu' e1 e2]
  ·rw [emp] at e1;rw [emq] at e2
   exact (mix k q _ _ _ _ e1 hnq e2).elim
  ·rw [emp] at e1;rw [emq] at e2
   exact (mix k' p _ _ _ _ e2 hnp e1).elim
  ·rw [emp] at e1;rw [emq] at e2
   exact mq hs.h.inj p q b n n' mu mu' e1 e2
 ·rcases split3 id with ⟨k,hk8,e,em⟩|⟨hno,em⟩
  ·rcases σ_cases k with ⟨x,hx,ex⟩|⟨hx,ex⟩
   ·grind
   ·exact .inr ⟨k - gids.length,by omega,by omega⟩
  grind [h,tK]
 ·rcases split3 id with ⟨k,hk8,e,em⟩|⟨hno,em⟩
  ·rw [em] at h
   obtain ⟨g0,g|g⟩:=hA.live k b n mu h
   ·have:=hs.h.hB
    omega
   ·obtain ⟨id',n',_,hm⟩:=blk b g
    exact ⟨(hs.h.live id' b _ _ hm).1,g0⟩
  ·rw [em] at h
   obtain ⟨_,g3,_⟩:=dm h
   have:=(hs.h.live id b _ _ g3).2
   have:=hkept.size
   exact ⟨(hs.h.live id b _ _ g3).1,by omega⟩
 grind [kH,id,h]
end
def Ge (nid:Nat):Option Ob→List (Nat×Option Ob)
 | some x=>[(nid,some x)]
 | none=>[]
def nK (P:Program) (ρ:Operand→AV) (H:ef):Op→Option (Rq×Nat×AV)
 | .slice t x lo hi none=>match P.underlying t,ρ x with
  | some (.array n e),.own id es i j m=>match H id,qo P e,jP n (lo.map ρ) (hi.map ρ) with
   | some o,some z,some (q,l,k)=>match gN (fun c=>o.f i (j+c)) n with
    | some kk=>bif Nat.beq z 1&&(Nat.beq o.es es&&Nat.ble n m) then some (q,id,.aG 1 k (fun r _=>.int kk (aE (o.f i (j+(l+r)))))) else none
    | none=>none
   | _,_,_=>none
  | _,_=>none
 | _=>none
section
variable {P : Program} {β : bo} {w : World} {H : ef} {ρ : Operand → AV} {σ : Operand → Value} {dst : Option Tmp} {ty : TypeId} {pos : String} {after : Array Edge} {g : Option (Nat × Bool)}
theorem A3 {o:Oper} {q:Rq} {id:Nat} {v:AV} (hH:cN β w H) (hρ:∀ x,x∈o.op.operands→Rel β w (ρ x) (σ x)) (h:nK P ρ H o.op=some (q,id,v)) (hq:q.holds) :
  H id≠none∧∃ u b n mu,(execOp σ o).run P w=.ok (.value u) w∧β.m id=some (.bx b n mu)∧∀ β':bo,β'.free b→Rel β' w v u:=by
 obtain ⟨dst,op,ty,pos,after,g⟩:=o
 unfold nK at h
 dsimp only at h hρ ⊢
 split at h
 rotate_left
 ·cases h
 rename_i t x lo hi
 have b1:∀ (o:Option Operand),(∀ y,o=some y→Rel β w (ρ y) (σ y))→∀ a,o.map ρ=some a→∃ x,o.map σ=some x∧Rel β w a x:=by
  intro o ho a ha
  cases o<;>grind
 have b2:∀ (o:Option Operand),o.map ρ=none→o.map σ=none:=by simp
 split at h
 rotate_left
 ·cases h
 rename_i n e id' es i j m hu hx
 split at h
 rotate_left
 ·cases h
 rename_i ob z qq l k ho hz hb
 split at h
 rotate_left
 ·cases h
 rename_i kk hkk
 obtain ⟨hc,h⟩:=bA h
 cases h
 simp only [Bool.and_eq_true] at hc
 have hz1:=Nat.eq_of_beq_eq_true hc.1
 have hes:=Nat.eq_of_beq_eq_true hc.2.1
 have hnm:=Nat.le_of_ble_eq_true hc.2.2
 subst hz1
 have hρx:=hρ x (by simp [Op.operands])
 rw [hx] at hρx
 refine ⟨by grind,?_⟩
 generalize hsx:σ x=u at hρx
 obtain ⟨b,bB,hp,hcell,hrel,hone⟩:=nE hH hρx ho hes
 have hlive:∃ n mu,β.m id=some (.bx b n mu):=by
  cases hρx with
  | own h _ _=>grind
  | ks h=>exact (hH.dead ho h).elim
 obtain ⟨n0,mu,hlive⟩:=hlive
 obtain ⟨h1,h2⟩:=iA (P:=P) (isS:=false) (Nat.le_refl n) (b1 lo (fun y hy=>hρ y (by grind [Op.operands]))) (b2 lo) (b1 hi (fun y hy=>hρ y (by grind [Op.operands]))) (b2 hi) hb hq
 subst hp
 refine ⟨.slice (some (if n - l=0 then ⟨b,i*es+j,Option.none⟩ else (⟨b,i*es+j,Option.none⟩:Addr).add (l*1))) (l+k - l) (n - l),b,n0,mu,?_,hlive,fun β' hf=>?_⟩
 ·have e:(if n=l then (⟨b,i*es+j,Option.none⟩:Addr) else (⟨b,i*es+j,Option.none⟩:Addr).add (l*1))=(if n - l=0 then ⟨b,i*es+j,Option.none⟩ else (⟨b,i*es+j,Option.none⟩:Addr).add (l*1)):=by grind
  simp_all [execOp,Instr.sliceAt,Instr.sureAddr,Sem.run_bind,run_underlying,Result.andThen_ok,Option.map_none,cU]
 ·have em:l+k - l=k:=by omega
  rw [em]
  by_cases hk:k=0
  ·subst hk
   exact .gT (fun h=>by cases h)
  ·rw [if_neg (by omega)]
   simp only [eZ]
   refine .aG (fun r _=>bB (l+r)) (by omega) (by omega) hf (fun r c hr hc'=>?_) (fun r c hr hc'=>hone _ (by omega)) (fun r c hr hc'=>?_) (fun _ _ _ _=>.int)
   ·grind
   ·have:=hrel (l+r) (by omega)
    obtain ⟨y,hy⟩:=fm hkk (l+r) (by omega)
    rw [hy] at this ⊢
    rw [bq this]
    exact .int
end
inductive Dx (C : tM) (c i : Nat) (o : Oper) (f : en) (s : dG) : fB → Prop where
  | sl {q : Rq} {id : Nat} {v : AV} (h : nK C.P (ev C.gl s.fr) (vH f s.H) o.op = some (q, id, v)) (hq : s.G o.guard = true → q.holds) : Dx C c i o f s ⟨v, s.G o.guard, [], [], [id]⟩
  | m {q : Rq} {v : AV} {ob : Option Ob} (h : bP C.P (ev C.gl s.fr) (vH f s.H) (c + 8 * i) o.op = some (q, v, ob)) (hq : s.G o.guard = true → q.holds) : Dx C c i o f s ⟨v, s.G o.guard, [], Ge (c + 8 * i) ob, []⟩
  | sc {fn : FuncId} {as : List AV} {r : AV} (h : eC (ev C.gl s.fr) o.op = some (fn, as)) (hp : s.G o.guard = true → Pure C.P C.gl fn (as.map (n7 9 (vH f s.H))) r) (hs : sc 9 r = true) : Dx C c i o f s ⟨r, s.G o.guard, [], [], []⟩
  | dc {fn : FuncId} {as : List AV} {r : AV} (ids : List Nat) (hids : ∀ id, vH f s.H id ≠ none → bZ ids id = true) (h : eC (ev C.gl s.fr) o.op = some (fn, as))
      (hp : s.G o.guard = true → Pure C.P C.gl fn (as.map (n7 9 (vH f s.H))) r) : Dx C c i o f s ⟨r, s.G o.guard, [], [], ids⟩
  | st {id : Nat} {f' : bz} (hg : o.guard = none) (h : qQ C.P (ev C.gl s.fr) (vH f s.H) o.op = some (id, f')) (hm : bZ f.mt id = true) (hmu : (s.H id).map Ob.mu = some true) (hht : s.ht id = none) :
      Dx C c i o f s ⟨.bw, true, [(id, f')], [], []⟩
  | ap {q : Prop} {v : AV} {ids : List Nat} {x : Ob} (hg : o.guard = none) (h : rm C.P (ev C.gl s.fr) (vH f s.H) (c + 8 * i) o.op = some (q, v, ids, x)) (hq : q)
      (hm : ∀ id, id ∈ ids → bZ f.mt id = true ∧ (s.H id).map Ob.mu = some true ∧ s.ht id = none) : Dx C c i o f s ⟨v, true, [], (c + 8 * i, some x) :: ids.map (fun id => (id, none)), []⟩
  | gv {fn : FuncId} {as : List AV} {gids zids : List Nat} {r : AV} {obs' : List (Option Ob)} (hg : o.guard = none) (h : eC (ev C.gl s.fr) o.op = some (fn, as)) (hnd : jr gids = true)
      (hgm : ∀ id, id ∈ gids → bZ f.rd id = true ∧ bZ f.mt id = true ∧ (s.H id).map Ob.mu = some true ∧ s.ht id = none) (hz : ∀ id, vH f s.H id ≠ none → bZ gids id = false → bZ zids id = true)
      (hl : gids.length ≤ obs'.length ∧ obs'.length ≤ gids.length + 8)
      (hG : bC C.P C.gl fn (iS gids (vH f s.H)) (as.map (mapA (gD gids 0) 9 (eN gids (vH f s.H)))) r obs') :
      Dx C c i o f s ⟨mapA (gO gids (c + 8 * i)) 9 FJ r, true, [], jS gids (c + 8 * i) obs', zids⟩
section
variable {K : Ctx} {C : tM} {ops : Array Oper} {c : Nat} {E : Nat → Prop} {β : bo} {s sv : dG} {a : Act} {w : World} {i : Nat} {o : Oper} {f : en} {e : fB}
theorem dz.G (h:dz o f sv s):s.G o.guard=sv.G o.guard:=by
 cases hg:o.guard with
 | none=>rfl
 | some jb=>obtain ⟨j,b⟩:=jb;simp only [dG.G,h.gt j b hg]
theorem dz.ev {gl:dE} (h:dz o f sv s) {x:Operand} (hx:x∈o.op.operands):ev gl sv.fr x=ev gl s.fr x:=by
 cases x with
 | tmp t=>exact (h.fr t hx).symm
 | _=>rfl
theorem xZ {Q:Exit→Act→World→Prop} {Kc:Act→World→Prop} (hP:C.P=K.P) (fF:C.gl=K.gl) (hs:cu K ops c E β s a w) (hp:tL K ops s i o) (hE:E i)
  (hop:jl ops s o=true) (hag:dz o f sv s) (h:Dx C c i o f sv e)
  (hK:∀ β' a' w',cu K ops c (less E i) β' (s.app i o e) a' w'→Kc a' w'):wpOp K.P ops Q i Kc a w:=by
 have hi:=hp.at_
 have hw:=nI hs hp.guard
 have hGv:=hag.G
 have hvH:=hag.vH
 have hH:=hs.ok f
 rw [hvH] at hH
 have hall:s.G o.guard=true→(∀ x y z,o.op≠.pick x y z)→∀ x,x∈o.op.operands→Rel β w (Am.ev K.gl sv.fr x) (a.eval x):=by
  intro hg hnp x hx
  have hall:o.op.operands.toList.all (mX ops s o.guard)=true:=by grind [jl,absurd]
  rw [hag.ev hx]
  exact kB hs (oE hs hp.guard (List.all_eq_true.1 hall x (by grind)) hg)
 cases h with
 | @sl q id v hm hq =>
  unfold wpOp
  simp only [hi]
  cases hg:s.G o.guard with
  | false=>rw [hw,hg,if_neg (by simp)];exact hK _ _ _ (hs.skip hp hE hGv (by grind) rfl (fun id x hx=>by cases hx))
  | true =>
   rw [hw,hg,if_pos rfl]
   refine .inl ?_
   have hgsv:sv.G o.guard=true:=by grind
   have hnp:∀ x y z,o.op≠.pick x y z:=fun x y z e=>by grind [nK]
   rw [hP,fF] at hm
   obtain ⟨_,u,b,n,mu,hrun,hlive,hrel⟩:=A3 hH (hall hg hnp) hm (hq hgsv)
   unfold Oper.wp
   rw [hrun]
   refine hK _ _ _ (hs.plain hp hE hGv rfl rfl (Below.refl _ _) (fun _=>?_) (fun h=>by grind))
   refine hrel _ ⟨fun hF=>?_,fun id' n' h'=>?_⟩
   ·have hF':β.F b:=hF
    rw [hs.h.bF] at hF'
    obtain ⟨g1,g2⟩:=hs.h.hF b hF'
    rcases (hs.h.live id b n mu hlive).1 with h|h
    ·omega
    grind
   ·obtain ⟨mu',g1,g2⟩:=dm h'
    have:=hs.h.inj id' id b n' n mu' mu g1 hlive
    subst this
    simp [bZ] at g2
 | @m q v ob hm hq =>
  unfold wpOp
  simp only [hi]
  cases hg:s.G o.guard with
  | false =>
   rw [hw,hg,if_neg (by simp)]
   refine hK _ _ _ (hs.skip hp hE hGv (by grind) rfl (fun id x hx=>?_))
   cases ob with
   | none=>cases hx
   | some ob =>
    simp only [Ge,cj] at hx
    by_cases e:c+8*i=id
    ·exact ⟨0,by omega,by omega⟩
    ·rw [if_neg e] at hx;cases hx
  | true =>
   rw [hw,hg,if_pos rfl]
   refine .inl ?_
   have hgsv:sv.G o.guard=true:=by grind
   have hfw:β.free w.heap.size:=by
    refine ⟨fun hF=>?_,fun id n hm=>absurd (hs.h.live id _ n true hm).2 (by omega)⟩
    rw [hs.h.bF] at hF
    have h1:=(hs.h.hF _ hF).1
    have h2:=hs.h.hB
    omega
   have hmok:mz β w (c+8*i) ((execOp a.eval o).run K.P w) v ob∨HO β w ((execOp a.eval o).run K.P w) v ob:=by
    by_cases hpick:∃ x y z,o.op=.pick x y z
    ·obtain ⟨x,y,z,hpk⟩:=hpick
     unfold jl at hop
     rw [hpk] at hop
     simp only [Bool.and_eq_true] at hop
     obtain ⟨⟨hx,hy⟩,hz⟩:=hop
     have hxr:=kB hs (oE hs hp.guard hx hg)
     have s1:=hag.ev (gl:=K.gl) (x:=x) (by grind [Op.operands])
     have s2:=hag.ev (gl:=K.gl) (x:=y) (by grind [Op.operands])
     have s3:=hag.ev (gl:=K.gl) (x:=z) (by grind [Op.operands])
     rw [hpk] at hm
     simp only [bP] at hm
     rw [fF,s1,s2,s3] at hm
     split at hm
     ·rename_i cb ab bb e1 e2 e3
      cases hm
      rw [e1] at hxr
      have r1:=ca hxr
      refine .inl ⟨.bool (bif cb then ab else bb),?_,.bool⟩
      cases cb with
      | true =>
       have:=yl hs hp.guard hg hxr rfl hy
       rw [e2] at this
       simp [execOp,hpk,r1,asBool,ca this]
      | false =>
       have:=yl hs hp.guard hg hxr rfl hz
       rw [e3] at this
       simp [execOp,hpk,r1,asBool,ca this]
     grind
    ·rw [hP,fF] at hm
     exact Fe hfw (fun v=>rfl) hH (hall hg (fun x y z e=>hpick ⟨x,y,z,e⟩)) hm (hq hgsv)
   unfold Oper.wp
   rcases hmok with hmok|⟨rfl,u,w',hbw,hu,hr⟩
   rotate_left
   ·rw [hu]
    refine hK _ _ _ (hs.plain hp hE hGv rfl rfl hbw (fun _=>?_) (fun h=>by grind))
    grind [uu]
   cases ob with
   | none =>
    obtain ⟨u,hu,hr⟩:=hmok
    rw [hu]
    refine hK _ _ _ (hs.plain hp hE hGv rfl rfl (Below.refl _ _) (fun _=>?_) (fun h=>by grind))
    grind [uu]
   | some x =>
    obtain ⟨hmu,cs,el,hsz,hcells,hform⟩:=hmok
    have hb:Below w.heap.size w (w.alloc (.cells cs el)):=(Below.refl _ w).alloc (Nat.le_refl _) _
    have hnewblk:(w.alloc (.cells cs el)).heap[w.heap.size]? = some (.cells cs el (0,0)):=by
     show (w.heap.push _)[w.heap.size]? = _
     simp
    have hsize:(w.alloc (.cells cs el)).heap.size=w.heap.size+1:=by simp
    rw [hgsv] at hK
    have hobj:∀ β',dF β w β' (w.alloc (.cells cs el))→rW β' (w.alloc (.cells cs el)) x w.heap.size:=fun β' hk=>⟨cs,el,hnewblk,hsz,fun p q hp' hq'=>by
     obtain ⟨u,g1,g2,g3⟩:=hcells p q hp' hq'
     exact ⟨u,g1,g2.fS hk,g3⟩⟩
    rcases hform with ⟨rfl,hn,hrun⟩|⟨rfl,hcs,hrun⟩
    ·rw [hrun]
     obtain ⟨β',hsim⟩:=hs.made hp hE hg hb hsize (x:=x) (v:=.own (c+8*i) x.es 0 0 x.es) (u:=.pointer (some ⟨w.heap.size,0,none⟩)) (fun β' hm' hk=>⟨by
      have:=Rel.own (β:=β') (w:=w.alloc (.cells cs el)) (id:=c+8*i) (es:=x.es) (i:=0) (j:=0) (m:=x.es) hm' (by omega) (by omega)
      grind,hobj β' hk⟩)
     exact hK _ _ _ hsim
    ·rw [hrun]
     obtain ⟨β',hsim⟩:=hs.made hp hE hg hb hsize (x:=x) (v:=.aZ (c+8*i) x.es 0 x.n) (u:=.slice (some ⟨w.heap.size,0,none⟩) x.n x.n) (fun β' hm' hk=>⟨by
      have:=Rel.aZ (β:=β') (w:=w.alloc (.cells cs el)) (id:=c+8*i) (es:=x.es) (i:=0) (len:=x.n) (cap:=x.n) (sz:=cs.size) (el:=el) hm' (by omega) (Nat.le_refl _) (by grind [World.shape?]) (by grind)
      grind,hobj β' hk⟩)
     exact hK _ _ _ hsim
 | @sc fn as r hc hpu hsc =>
  unfold wpOp
  simp only [hi]
  cases hg:s.G o.guard with
  | false=>rw [hw,hg,if_neg (by simp)];exact hK _ _ _ (hs.skip hp hE hGv (by grind) rfl (fun id x hx=>by cases hx))
  | true =>
   rw [hw,hg,if_pos rfl]
   refine .inl ?_
   have hgsv:sv.G o.guard=true:=by grind
   have hnp:∀ x y z,o.op≠.pick x y z:=fun x y z e=>by grind [eC]
   rw [fF] at hc
   have hpu':=hpu hgsv
   obtain ⟨vs,hrun,hrel⟩:=jY (P:=K.P) (hall hg hnp) hc (hP▸hpu'.1)
   unfold Oper.wp
   rw [hrun]
   have hfz:eR (bo.none fun _=>False) w (as.map (n7 9 (vH f sv.H))) vs:=by
    obtain ⟨h1,h2⟩:=fg hrel.len hrel.rel (fun u v hr=>tI hH (F':=fun _=>False) (fun _ _ h=>h) (fun _ _ _ _ _ _ _ h=>h) 9 u v hr)
    exact ⟨h1,h2⟩
   have:=hpu'.use (F:=fun _=>False) (fun _ h=>h.elim) (fun g m h hgl'=>(hs.h.iW g m h (fF▸hgl')).fQ (fun b hb=>⟨fun h=>h,fun id n h=>by grind [bo.none]⟩) (by
    obtain ⟨_,_,_,_,_,_,_,_,hcl,_⟩:=dd (hs.h.iW g m h (fF▸hgl')).rel
    exact .bH hcl)) hfz
   rw [hP] at this
   refine this.mono fun e w' hh=>?_
   obtain ⟨v,rfl,hb,hr⟩:=hh
   refine hK _ _ _ (hs.plain hp hE hGv rfl rfl hb (fun _=>?_) (fun h=>by grind))
   exact hr.scalar 9 hsc
 | @dc fn as r ids hids hc hpu =>
  unfold wpOp
  simp only [hi]
  cases hg:s.G o.guard with
  | false=>rw [hw,hg,if_neg (by simp)];exact hK _ _ _ (hs.skip hp hE hGv (by grind) rfl (fun id x hx=>by cases hx))
  | true =>
   rw [hw,hg,if_pos rfl]
   refine .inl ?_
   have hgsv:sv.G o.guard=true:=by grind
   have hnp:∀ x y z,o.op≠.pick x y z:=fun x y z e=>by grind [eC]
   rw [fF] at hc
   have hpu':=hpu hgsv
   obtain ⟨vs,hrun,hrel⟩:=jY (P:=K.P) (hall hg hnp) hc (hP▸hpu'.1)
   unfold Oper.wp
   rw [hrun]
   have zfree:∀ b,β.free b→(fT ids β).free b:=by
    intro b hf
    refine ⟨hf.1,fun id n h=>?_⟩
    obtain ⟨mu',h1,h2⟩:=dm h
    have:mu'=true:=by grind
    subst this
    exact hf.2 id n h1
   have hfree:∀ id ob b n mu,vH f sv.H id=some ob→β.m id=some (.bx b n mu)→¬¬(fT ids β).free b:=by
    intro id ob b n mu ho hm hnf
    apply hnf
    have hid:=hids id (by grind)
    refine ⟨fun hF=>?_,fun id' n' h'=>?_⟩
    ·have hF':β.F b:=hF
     rw [hs.h.bF] at hF'
     obtain ⟨g1,g2⟩:=hs.h.hF b hF'
     rcases (hs.h.live id b n mu hm).1 with h|h
     ·omega
     grind
    ·obtain ⟨mu',g1,g2⟩:=dm h'
     have:=hs.h.inj id' id b n' n mu' mu g1 hm
     grind
   have hfz:eR (bo.none fun b=>¬(fT ids β).free b) w (as.map (n7 9 (vH f sv.H))) vs:=by
    obtain ⟨h1,h2⟩:=fg hrel.len hrel.rel (fun u v hr=>tI hH (F':=fun b=>¬(fT ids β).free b) (fun b hb h=>h (zfree b hb)) (fun id ob b n mu ho hm=>hfree id ob b n mu ho hm) 9 u v hr)
    exact ⟨h1,h2⟩
   have hFlt:∀ b,¬(fT ids β).free b→b<w.heap.size:=by
    intro b hb
    apply Classical.byContradiction
    intro hge
    apply hb
    refine ⟨fun hF=>?_,fun id n h=>?_⟩
    ·have hF':β.F b:=hF
     rw [hs.h.bF] at hF'
     have:=(hs.h.hF b hF').1
     have:=hs.h.hB
     omega
    ·obtain ⟨_,g1,_⟩:=dm h
     have:=(hs.h.live id b n _ g1).2
     omega
   have:=hpu'.use (F:=fun b=>¬(fT ids β).free b) hFlt (fun g m h hgl'=>(hs.h.iW g m h (fF▸hgl')).fQ (fun b hb=>⟨fun h=>h (zfree b hb),fun id n h=>by grind [bo.none]⟩) (by
    obtain ⟨_,_,_,_,_,_,_,_,hcl,_⟩:=dd (hs.h.iW g m h (fF▸hgl')).rel
    exact .bH hcl)) hfz
   rw [hP] at this
   refine this.mono fun e w' hh=>?_
   obtain ⟨v,rfl,hb,hr⟩:=hh
   refine hK _ _ _ (hs.plain hp hE hGv rfl rfl hb (fun _=>?_) (fun h=>by grind))
   exact hr.fQ (fun b hb=>Classical.not_not.1 hb.1) hr.closed
 | @st id f' hgn he hm hmu hht =>
  have hg:s.G o.guard=true:=by rw [hgn];rfl
  have hnp:∀ x y z,o.op≠.pick x y z:=fun x y z ee=>by grind [qQ]
  rw [hP,fF,← hvH] at he
  obtain ⟨w',hrun,hsim⟩:=hs.stored hp hE hgn (hall hg hnp) (by rw [hag.mt id hm];omega) (by rw [hag.ht id hm];omega) he
  unfold wpOp
  simp only [hi]
  rw [hw,hg,if_pos rfl]
  refine .inl ?_
  unfold Oper.wp
  rw [hrun]
  exact hK _ _ _ hsim
 | @ap q v ids x hgn he hq hm =>
  have hg:s.G o.guard=true:=by rw [hgn];rfl
  have hnp:∀ x y z,o.op≠.pick x y z:=fun x y z ee=>by grind [rm,pF,vM,sQ]
  rw [hP,fF,← hvH] at he
  obtain ⟨u,w',hrun,β',hsim⟩:=hs.appended hp hE hgn (hall hg hnp) (fun id hid=>⟨by rw [hag.mt id (hm id hid).1];grind,by rw [hag.ht id (hm id hid).1];grind⟩) he hq
  unfold wpOp
  simp only [hi]
  rw [hw,hg,if_pos rfl]
  refine .inl ?_
  unfold Oper.wp
  rw [hrun]
  exact hK _ _ _ hsim
 | @gv fn as gids zids r obs' hgn hc hnd hgm hz hl hG =>
  have hg:s.G o.guard=true:=by rw [hgn];rfl
  have hnp:∀ x y z,o.op≠.pick x y z:=fun x y z e=>by grind [eC]
  rw [fF] at hc
  obtain ⟨vs,hrun,hrel⟩:=jY (P:=K.P) (hall hg hnp) hc (hP▸hG.1)
  unfold wpOp
  simp only [hi]
  rw [hw,hg,if_pos rfl]
  refine .inl ?_
  unfold Oper.wp
  rw [hrun]
  rw [hP,fF,← hvH] at hG
  have:=hs.given (Q:=fun w' u=>Kc (a.put o.dst u) w') hp hE hg hrel hnd (fun id hid=>⟨(hgm id hid).1,by rw [hag.mt id (hgm id hid).2.1];grind,by rw [hag.ht id (hgm id hid).2.1];grind⟩)
   (fun id hv hn=>hz id (by simp_all) hn) hl hG (fun u w' β' hsim=>hK _ _ _ hsim)
  refine this.mono fun e w' hh=>?_
  grind
def _root_.Go.Oper.bare (o:Oper):Oper:={ o with guard:=none }
theorem cu.bare (hi:s.gt i=none) (hG:s.G o.guard=true) (hgd:∀ j b,o.guard=some (j,b)→s.gt j≠none) (hs:cu K ops c E β (s.app i o e) a w):cu K ops c E β (s.app i o.bare e) a w:=by
 have eG:∀ γ,(s.app i o.bare e).G γ=(s.app i o e).G γ:=fun γ=>by cases γ<;>rfl
 have hg1:(s.app i o e).G o.guard=true:=by rw [xH hi o e _ hgd];exact hG
 have htg:∀ n,(s.app i o.bare e).G ((s.app i o.bare e).tg n)=(s.app i o e).G ((s.app i o e).tg n):=fun n=>by
  rw [eG,jm,jm]
  show (s.app i o e).G (if o.dst=some n then none else s.tg n)=_
  by_cases h:o.dst=some n
  ·rw [if_pos h,if_pos h,hg1];rfl
  ·rw [if_neg h,if_neg h]
 have hht:∀ n,(s.app i o.bare e).G ((s.app i o.bare e).ht n)=(s.app i o e).G ((s.app i o e).ht n):=fun n=>by
  rw [eG,iO,iO]
  cases look e.ds n with
  | some x=>show true=_;exact hg1.symm
  | none=>rfl
 obtain ⟨h,f⟩:=hs
 refine ⟨?_,⟨fun n=>by rw [htg n];exact f.slot n,f.size,f.defers,fun j g b hj=>?_,f.Br,fun n j b hn=>?_,fun n j b hn=>?_,f.todo⟩⟩
 ·have:=funext hht
  simp only [this]
  exact h
 ·obtain ⟨o',d,h1,h2,h3,h4⟩:=f.AZ j g b hj
  exact ⟨o',d,h1,h2,by rw [eG];exact h3,h4⟩
 ·rw [jm] at hn
  by_cases h':o.dst=some n
  ·have:o.bare.dst=some n:=h'
   rw [if_pos this] at hn;cases hn
  ·have:¬o.bare.dst=some n:=h'
   rw [if_neg this] at hn
   exact f.Dh n j b (by rw [jm,if_neg h'];exact hn)
 ·rw [iO] at hn
  cases hl:look e.ds n with
  | some x=>simp only [hl] at hn;cases hn
  | none=>simp only [hl] at hn;exact f.GU n j b (by rw [iO,hl];exact hn)
def GvD (C:tM) (c i:Nat) (o:Oper) (f:en) (s:dG) (e:fB):Prop:=∃ (fn:FuncId) (as:List AV) (gids zids:List Nat) (r:AV) (obs':List (Option Ob)),
 eC (ev C.gl s.fr) o.op=some (fn,as)∧jr gids=true ∧
 (∀ id,id∈gids→bZ f.rd id=true∧bZ f.mt id=true∧(s.H id).map Ob.mu=some true∧s.ht id=none)∧(∀ id,vH f s.H id≠none→bZ gids id=false→bZ zids id=true) ∧
 (gids.length≤obs'.length∧obs'.length≤gids.length+8)∧bC C.P C.gl fn (iS gids (vH f s.H)) (as.map (mapA (gD gids 0) 9 (eN gids (vH f s.H)))) r obs' ∧
 e=⟨mapA (gO gids (c+8*i)) 9 FJ r,true,[],jS gids (c+8*i) obs',zids⟩
theorem An {Q:Exit→Act→World→Prop} {Kc:Act→World→Prop} (hP:C.P=K.P) (fF:C.gl=K.gl) (hs:cu K ops c E β s a w) (hp:tL K ops s i o) (hE:E i)
  (hop:jl ops s o=true) (hG:s.G o.guard=true) (h:GvD C c i o f s e)
  (hK:∀ β' a' w',cu K ops c (less E i) β' (s.app i o.bare e) a' w'→Kc a' w'):wpOp K.P ops Q i Kc a w:=by
 obtain ⟨fn,as,gids,zids,r,obs',hc,hnd,hgm,hz,hl,hGv,rfl⟩:=h
 have hi:=hp.at_
 have hw:=nI hs hp.guard
 have hnp:∀ x y z,o.op≠.pick x y z:=fun x y z e=>by rw [e] at hc;simp [eC] at hc
 have hall:∀ x,x∈o.op.operands→Rel β w (Am.ev K.gl s.fr x) (a.eval x):=by
  intro x hx
  have hall:o.op.operands.toList.all (mX ops s o.guard)=true:=by
   unfold jl at hop
   split at hop
   ·rename_i x y z he;exact absurd he (hnp x y z)
   ·exact hop
  exact kB hs (oE hs hp.guard (List.all_eq_true.1 hall x (by simpa using hx)) hG)
 rw [fF] at hc
 obtain ⟨vs,hrun,hrel⟩:=jY (P:=K.P) hall hc (hP▸hGv.1)
 unfold wpOp
 simp only [hi]
 rw [hw,hG,if_pos rfl]
 refine .inl ?_
 unfold Oper.wp
 rw [hrun]
 rw [hP,fF] at hGv
 have:=hs.given (Q:=fun w' u=>Kc (a.put o.dst u) w') hp hE hG hrel hnd (fun id hid=>⟨(hgm id hid).1,(hgm id hid).2.2.1,(hgm id hid).2.2.2⟩)
  hz hl hGv (fun u w' β' hsim=>hK _ _ _ (hsim.bare (hs.f.todo i hE) hG hp.guard))
 refine this.mono fun e w' hh=>?_
 obtain ⟨u,rfl,hk⟩:=hh
 exact hk
theorem A8 {Q:Exit→Act→World→Prop} {Kc:Act→World→Prop} {v:AV} (hs:cu K ops c E β s a w) (hp:tL K ops s i o) (hE:E i) (hG:s.G o.guard=false)
  (hK:∀ β' a' w',cu K ops c (less E i) β' (s.app i o ⟨v,false,[],[],[]⟩) a' w'→Kc a' w'):wpOp K.P ops Q i Kc a w:=by
 have hi:=hp.at_
 have hw:=nI hs hp.guard
 unfold wpOp
 simp only [hi]
 rw [hw,hG,if_neg (by simp)]
 exact hK _ _ _ (hs.skip (e:=⟨v,false,[],[],[]⟩) hp hE hG rfl rfl (fun id x hx=>by cases hx))
end
def va (acc:Array Nat) (o:Oper):Nat:=o.after.foldl (fun s e=>if Region.binds .any e then s ||| 2^e.on ||| acc.getD e.on 0 else s) 0
theorem Ac (ops:Array Oper):Region.before ops=ops.foldl (init := #[]) fun acc o=>acc.push (va acc o):=rfl
theorem ot (l:List Oper):∀ (acc:Array Nat),∃ B:Array Nat,l.foldl (fun acc o=>acc.push (va acc o)) acc=B∧B.size=acc.size+l.length∧(∀ k,k<acc.size→B[k]? = acc[k]?) ∧
  ∀ i o,l[i]? = some o→∃ A:Array Nat,A.size=acc.size+i∧(∀ k,k<A.size→A[k]? = B[k]?)∧B[acc.size+i]? = some (va A o):=by
 induction l with
 | nil=>simp
 | cons x l ih =>
  intro acc
  obtain ⟨B,h1,h2,h3,h4⟩:=ih (acc.push (va acc x))
  refine ⟨B,h1,by grind,fun k hk=>?_,fun i o ho=>?_⟩
  ·grind
  grind
theorem sW (acc:Array Nat) (b:Nat) (es:List Edge):∀ (s:Nat),(es.foldl (fun s e=>if Region.binds .any e then s ||| 2^e.on ||| acc.getD e.on 0 else s) s).testBit b=true →
  s.testBit b=true∨∃ e,e∈es∧Region.binds .any e=true∧(b=e.on∨(acc.getD e.on 0).testBit b=true):=by
 induction es with
 | nil=>simp
 | cons x es ih =>
  intro s h
  simp only [List.foldl_cons] at h
  rcases ih _ h with h|⟨e,he,hb,hx⟩
  ·by_cases hbd:Region.binds .any x=true
   ·grind
   grind
  grind
def pre (ops:Array Oper) (i j:Nat):Bool:=((Region.before ops).getD i 0).testBit j
def nL (ops:Array Oper) (L:Nat→Prop):Prop:=∀ i j,L i→pre ops i j=true→L j
theorem mb {ops:Array Oper} {L:Nat→Prop} (hc:nL ops L) {i:Nat} {o:Oper} (hi:ops[i]? = some o) (hr:∀ e,e∈o.after→Region.binds .any e=true→L e.on):∀ j,pre ops i j=true→L j:=by
 intro j hj
 obtain ⟨B,h1,h2,_,h4⟩:=ot ops.toList #[]
 obtain ⟨A,g1,g2,g3⟩:=h4 i o (by grind)
 have hB:Region.before ops=B:=by grind [Ac]
 unfold pre at hj
 simp only [List.size_toArray,List.length_nil,Nat.zero_add] at g1 g3
 rw [hB,Array.getD_eq_getD_getElem?,g3] at hj
 simp only [Option.getD_some,va] at hj
 rw [← Array.foldl_toList] at hj
 rcases sW A j o.after.toList 0 hj with h|⟨e,he,hb,hx⟩
 ·grind
 ·have hL:=hr e (by grind) hb
  rcases hx with rfl|hx
  ·omega
  ·refine hc e.on j hL ?_
   unfold pre
   rw [hB]
   rw [Array.getD_eq_getD_getElem?] at hx ⊢
   grind
section
variable {ops : Array Oper}
abbrev Li (listed:Array Bool):Nat→Prop:=fun j=>listed.getD j false=true
theorem tw {listed:Array Bool} {i:Nat} (hi:i<listed.size) (j:Nat):Li (listed.setIfInBounds i true) j↔Li listed j∨j=i:=by
 unfold Li
 rw [Array.getD_eq_getD_getElem?,Array.getD_eq_getD_getElem?,Array.getElem?_setIfInBounds]
 grind
theorem J2 {listed:Array Bool} {i:Nat} (h:listed.getD i true=false):¬Li listed i∧i<listed.size:=by grind
theorem wK {listed:Array Bool} {i:Nat} {o:Oper} (hc:nL ops (Li listed)) (hi:i<listed.size) (ho:ops[i]? = some o) (hr:∀ e,e∈o.after→Region.binds .any e=true→Li listed e.on) :
  nL ops (Li (listed.setIfInBounds i true)):=by
 intro x y hx hxy
 rw [tw hi] at hx ⊢
 rcases hx with hx|rfl
 ·exact .inl (hc x y hx hxy)
 grind [mb]
theorem qk {listed:Array Bool} {i:Nat} (h:i∈Region.ready .any ops listed):¬Li listed i∧i<listed.size∧∃ o,ops[i]? = some o∧∀ e,e∈o.after→Region.binds .any e=true→Li listed e.on:=by grind [mem_ready,J2]
theorem zK {L:Nat→Prop} {n:Nat} (h:¬∀ j,j<n→L j):∃ i,i<n∧¬L i∧∀ j,j<i→L j:=by
 induction n with
 | zero=>grind
 | succ n ih =>
  by_cases hn:∀ j,j<n→L j
  ·grind
  grind
end
def pe (ops:Array Oper) (l:List (en×fB)):Bool :=
 (List.range ops.size).all fun j=>match ops[j]?,l[j]? with
  | some oj,some (fj,ej)=>oj.after.toList.all (fun e => !Region.binds .any e||Nat.blt e.on j) &&
    (List.range j).all fun i=>pre ops j i||(match ops[i]?,l[i]? with
     | some oi,some (fi,ei)=>kb ops oi fi oj ej&&(kb ops oj fj oi ei&&lK oi ei oj ej)
     | _,_=>false)
  | _,_=>false
theorem nT {ops:Array Oper} {es:Nat→fB} {fs:Nat→en} (h:pe ops ((List.range ops.size).map fun j=>(fs j,es j))=true) {j:Nat} {oj:Oper} (hj:ops[j]? = some oj) :
  (∀ e,e∈oj.after→Region.binds .any e=true→e.on<j) ∧
  ∀ i oi,i<j→ops[i]? = some oi→pre ops j i=true∨(kb ops oi (fs i) oj (es j)=true∧kb ops oj (fs j) oi (es i)=true∧lK oi (es i) oj (es j)=true):=by
 have hlt:j<ops.size:=(Array.getElem?_eq_some_iff.1 hj).1
 have hget:∀ k,k<ops.size→((List.range ops.size).map fun j=>(fs j,es j))[k]? = some (fs k,es k):=fun k hk=>by grind
 have h1:=List.all_eq_true.1 h j (List.mem_range.2 hlt)
 simp only [hj,hget j hlt,Bool.and_eq_true] at h1
 refine ⟨fun e he hb=>?_,fun i oi hi hoi=>?_⟩
 ·have:=List.all_eq_true.1 h1.1 e (by grind)
  simp only [hb,Bool.not_true,Bool.false_or,Nat.blt_eq] at this
  omega
 grind
def lex (C:tM) (ops:Array Oper) (dr:Bool) (c:Nat):List Oper→Nat→dG→List (en×fB)→(dG→List (en×fB)→Prop)→Prop
 | [],_,s,acc,X=>X s acc
 | o::rest,i,s,acc,X=>qF C.nt ops s o=true∧((∃ f e,Dx C c i o f s e∧lex C ops dr c rest (i+1) (s.app i o e) ((f,e)::acc) X) ∨
  (dr=false∧(s.G o.guard=true→∃ f e,GvD C c i o f s e∧lex C ops dr c rest (i+1) (s.app i o.bare e) ((f,e)::acc) X) ∧
   (s.G o.guard=false→∃ v acc',lex C ops dr c rest (i+1) (s.app i o ⟨v,false,[],[],[]⟩) acc' X)))
theorem xy {ops:Array Oper} {es es':Nat→fB}:∀ (l:List Nat) (s:dG),(∀ j,j∈l→es j=es' j)→fN ops es s l=fN ops es' s l:=by
 intro l
 induction l with
 | nil=>intro s _;rfl
 | cons j l ih =>
  grind [fY,List.mem_cons_of_mem,vR,List.mem_cons_self]
theorem xC {C:tM} {ops:Array Oper} {c:Nat} {X:dG→List (en×fB)→Prop}:∀ (l:List Oper) (i:Nat) (s:dG) (acc:List (en×fB)),(∀ j,l[j]? = ops[i+j]?)→lex C ops true c l i s acc X →
  ∃ (es:Nat→fB) (fs:Nat→en),(∀ j o,j<l.length→ops[i+j]? = some o→qF C.nt ops (fN ops es s (List.range' i j)) o=true∧Dx C c (i+j) o (fs (i+j)) (fN ops es s (List.range' i j)) (es (i+j))) ∧
   X (fN ops es s (List.range' i l.length)) (((List.range' i l.length).map fun j=>(fs j,es j)).reverse++acc):=by
 intro l
 induction l with
 | nil=>intro i s acc _ h;exact ⟨fun _=>⟨.bw,true,[],[],[]⟩,fun _=>⟨[],[],[]⟩,fun j o hj=>absurd hj (by simp),h⟩
 | cons o rest ih =>
  intro i s acc hl h
  obtain ⟨hok,hh⟩:=h
  obtain ⟨f,e,hop,hrest⟩:=hh.resolve_right (fun h=>by cases h.1)
  have h0:ops[i]? = some o:=by simpa using (hl 0).symm
  obtain ⟨es,fs,h1,h2⟩:=ih (i+1) _ _ (fun j=>by have:=hl (j+1);grind) hrest
  let es':Nat→fB:=fun j=>if j=i then e else es j
  let fs':Nat→en:=fun j=>if j=i then f else fs j
  have hst:∀ n,fN ops es' s (List.range' i (n+1))=fN ops es (s.app i o e) (List.range' (i+1) n):=by
   intro n
   rw [List.range'_succ,fY]
   grind [vR,xy]
  refine ⟨es',fs',fun j oj hj hoj=>?_,?_⟩
  ·cases j with
   | zero =>
    rw [Nat.add_zero,h0] at hoj
    cases hoj
    simp only [List.range'_zero,fN,List.foldl_nil,Nat.add_zero,es',fs',if_pos rfl]
    grind
   | succ j =>
    grind
  ·rw [List.length_cons,hst,List.range'_succ,List.map_cons,List.reverse_cons,List.append_assoc]
   grind [List.range',List.map_congr_left]
section
variable {K : Ctx} {C : tM} {ops : Array Oper} {c : Nat} {E E' : Nat → Prop} {β : bo} {s : dG} {a : Act} {w : World} {Q : Exit → Act → World → Prop}
theorem cu.qK (h:cu K ops c E β s a w) (hE:∀ j,E' j→E j):cu K ops c E' β s a w :=
 ⟨⟨h.h.heap,h.h.uc,h.h.inj,h.h.fresh,fun i k hi=>h.h.nA i k (hE i hi),h.h.live,h.h.zq,h.h.bF,h.h.hF,h.h.kept,h.h.hB,h.h.iW⟩,
   ⟨h.f.slot,h.f.size,h.f.defers,h.f.AZ,h.f.Br,h.f.Dh,h.f.GU,fun i hi=>h.f.todo i (hE i hi)⟩⟩
theorem wW {nt:Nat} {f:en} {sv:dG} {o:Oper} (h:dz o f sv s) (hok:qF nt ops sv o=true):qF nt ops s o=true:=by
 unfold qF at hok ⊢
 rw [rL h]
 cases hg:o.guard with
 | none=>grind
 | some jb=>obtain ⟨j,b⟩:=jb;rw [hg] at hok;simp only [h.gt j b hg];omega
def rR (ops:Array Oper):Prop:=∀ (i j:Nat) (oi oj:Oper) (d:Tmp),ops[i]? = some oi→ops[j]? = some oj→oi.dst=some d→oj.dst=some d→i=j
theorem Gr (hP:C.P=K.P) (fF:C.gl=K.gl) (pa:C.nt=K.nt) (hone:rR ops) {X:dG→List (en×fB)→Prop} {is:List Nat} {m:Nat}
  (hQ:∀ β s acc a w,cu K ops c (fun j=>m≤j) β s a w→X s acc→wpOps K.P ops Q is a w):∀ (l:List Oper) (i:Nat) (s:dG) (acc:List (en×fB)) (β:bo) (a:Act) (w:World),(∀ j,j<l.length→l[j]? = ops[i+j]?)→i+l.length=m →
  lex C ops false c l i s acc X→cu K ops c (fun j=>i≤j) β s a w→wpOps K.P ops Q (List.range' i l.length++is) a w:=by
 intro l
 induction l with
 | nil =>
  intro i s acc β a w _ hn h hs
  have:m=i:=by grind
  exact hQ β s acc a w (hs.qK fun j hj=>by omega) h
 | cons o rest ih =>
  intro i s acc β a w hl hn h hs
  obtain ⟨hok,hh⟩:=h
  have h0:ops[i]? = some o:=by simpa using (hl 0 (by simp)).symm
  rw [List.length_cons,List.range'_succ,List.cons_append,wpOps_cons]
  obtain ⟨hp,hopn⟩:=uC (K:=K) pa.symm hok h0 (fun j oj d h1 h2 h3=>hone j i oj o d h1 h0 h2 h3)
  have go:∀ s' acc' β' a' w',lex C ops false c rest (i+1) s' acc' X→cu K ops c (less (fun j=>i≤j) i) β' s' a' w'→wpOps K.P ops Q (List.range' (i+1) rest.length++is) a' w':=fun s' acc' β' a' w' hrest hs' =>
   ih (i+1) s' acc' β' a' w' (fun j hj=>by have:=hl (j+1) (by simp;omega);simpa [Nat.add_assoc,Nat.add_comm 1 j] using this) (by simp at hn;omega) hrest (hs'.qK fun j hj=>⟨by omega,by omega⟩)
  rcases hh with ⟨f,e,hop,hrest⟩|⟨_,ht,hf⟩
  ·exact xZ hP fF hs hp (Nat.le_refl _) hopn (dz.refl o f s) hop (fun β' a' w' hs'=>go _ _ β' a' w' hrest hs')
  ·cases hG:s.G o.guard with
   | true =>
    obtain ⟨f,e,hgv,hrest⟩:=ht hG
    exact An hP fF hs hp (Nat.le_refl _) hopn hG hgv (fun β' a' w' hs'=>go _ _ β' a' w' hrest hs')
   | false =>
    obtain ⟨v,acc',hrest⟩:=hf hG
    exact A8 hs hp (Nat.le_refl _) hG (fun β' a' w' hs'=>go _ _ β' a' w' hrest hs')
theorem Mu (hP:C.P=K.P) (fF:C.gl=K.gl) (pa:C.nt=K.nt) (hone:rR ops) {X:dG→List (en×fB)→Prop}
  (hQ:∀ β s acc a w,cu K ops c (fun j=>ops.size≤j) β s a w→X s acc→Q .normal a w) (l:List Oper) (i:Nat) (s:dG) (acc:List (en×fB)) (β:bo) (a:Act) (w:World) (hl:∀ j,l[j]? = ops[i+j]?) (hn:i+l.length=ops.size)
  (h:lex C ops false c l i s acc X) (hs:cu K ops c (fun j=>i≤j) β s a w):wpOps K.P ops Q (List.range' i l.length) a w:=by
 have:=Gr (is:=[]) hP fF pa hone (fun β s acc a w hr hX=>hQ β s acc a w hr hX) l i s acc β a w (fun j _=>hl j) hn h hs
 grind
structure I0 (K : Ctx) (C : tM) (ops : Array Oper) (c : Nat) (es : Nat → fB) (fs : Nat → en) (s0 : dG) (Q : Exit → Act → World → Prop) : Prop where
  hP : C.P = K.P
  fF : C.gl = K.gl
  pa : C.nt = K.nt
  back : ∀ j oj, ops[j]? = some oj → ∀ e, e ∈ oj.after → Region.binds .any e = true → e.on < j
  pair : ∀ i j oi oj, i < j → ops[i]? = some oi → ops[j]? = some oj → pre ops j i = true ∨ (kb ops oi (fs i) oj (es j) = true ∧ kb ops oj (fs j) oi (es i) = true ∧ lK oi (es i) oj (es j) = true)
  st : ∀ j o, ops[j]? = some o → qF C.nt ops (fN ops es s0 (List.range j)) o = true ∧ Dx C c j o (fs j) (fN ops es s0 (List.range j)) (es j)
  one : rR ops
  fin : ∀ β a w, cu K ops c (fun j => ops.size ≤ j) β (fN ops es s0 (List.range ops.size)) a w → Q .normal a w
def ba (listed:Array Bool):Nat→Bool:=fun j=>listed.getD j false
theorem sq {n i:Nat} (p p':Nat→Bool) (hi:i<n) (hp:p i=false) (hp':∀ j,p' j=(p j||j==i)) :
  ∃ B,(List.range n).filter p=(List.range i).filter p++B∧(List.range n).filter p'=(List.range i).filter p++i::B∧∀ j,j∈B→i<j∧p j=true:=by
 have hr:List.range n=List.range i++i::List.range' (i+1) (n - i - 1):=by
  rw [List.range_eq_range',List.range_eq_range']
  have e:n=i+(1+(n - i - 1)):=by omega
  conv=>lhs;rw [e]
  rw [← List.range'_append_1,Nat.zero_add]
  grind [Nat.add_comm,List.range'_succ]
 refine ⟨(List.range' (i+1) (n - i - 1)).filter p,?_,?_,fun j hj=>?_⟩
 ·grind
 ·rw [hr,List.filter_append,List.filter_cons]
  have h1:p' i=true:=by grind
  have h2:(List.range i).filter p'=(List.range i).filter p:=List.filter_congr (fun j hj=>by simp_all [List.mem_range]<;>omega)
  have h3:(List.range' (i+1) (n - i - 1)).filter p'=(List.range' (i+1) (n - i - 1)).filter p:=List.filter_congr (fun j hj=>by simp_all [List.mem_range'_1]<;>omega)
  grind
 grind
theorem Ly {es:Nat→fB} {fs:Nat→en} {s0:dG} (D:I0 K C ops c es fs s0 Q):∀ (fuel:Nat) (listed:Array Bool) (β:bo) (a:Act) (w:World),listed.size=ops.size→fuel+((List.range ops.size).filter (ba listed)).length=ops.size →
  nL ops (Li listed)→cu K ops c (fun j=>¬Li listed j) β (fN ops es s0 ((List.range ops.size).filter (ba listed))) a w→wpAny K.P .any ops Q fuel listed a w:=by
 have whole:∀ (listed:Array Bool) (β:bo) (a:Act) (w:World),listed.size=ops.size→(∀ j,j<ops.size→Li listed j)→cu K ops c (fun j=>¬Li listed j) β (fN ops es s0 ((List.range ops.size).filter (ba listed))) a w→Q .normal a w:=by
  intro listed β a w hsz hall hs
  have e:(List.range ops.size).filter (ba listed)=List.range ops.size:=List.filter_eq_self.2 (fun j hj=>hall j (List.mem_range.1 hj))
  rw [e] at hs
  refine D.fin β a w (hs.qK fun j hj hl=>?_)
  grind
 have step:∀ (fuel:Nat) (listed:Array Bool) (β:bo) (a:Act) (w:World),listed.size=ops.size→fuel+1+((List.range ops.size).filter (ba listed)).length=ops.size→nL ops (Li listed) →
   cu K ops c (fun j=>¬Li listed j) β (fN ops es s0 ((List.range ops.size).filter (ba listed))) a w→∀ i,i∈Region.ready .any ops listed→∀ (Kc:Act→World→Prop),
   (∀ β' a' w',(listed.setIfInBounds i true).size=ops.size→fuel+((List.range ops.size).filter (ba (listed.setIfInBounds i true))).length=ops.size→nL ops (Li (listed.setIfInBounds i true)) →
    cu K ops c (fun j=>¬Li (listed.setIfInBounds i true) j) β' (fN ops es s0 ((List.range ops.size).filter (ba (listed.setIfInBounds i true)))) a' w'→Kc a' w')→wpOp K.P ops Q i Kc a w:=by
  intro fuel listed β a w hsz hlen hcl hs i hi Kc hKc
  obtain ⟨hnl,hilt,o,ho,hr⟩:=qk hi
  have hin:i<ops.size:=by omega
  have hpi:ba listed i=false:=by grind [ba,absurd]
  have hpre:=mb hcl ho hr
  obtain ⟨B,e1,e2,hB⟩:=sq (ba listed) (ba (listed.setIfInBounds i true)) hin hpi (fun j=>by
   have:=tw hilt j
   rw [Bool.eq_iff_iff,Bool.or_eq_true]
   unfold ba
   grind)
  obtain ⟨hok,hop⟩:=D.st i o ho
  have hag:dz o (fs i) (fN ops es s0 (List.range i)) (fN ops es s0 ((List.range ops.size).filter (ba listed))):=by
   rw [e1,kM]
   refine dz.tail B _ _ (fun j oj hj hoj=>?_) (dz.fold (ba listed) (List.range i) s0 s0 (fun j oj hj hpj hoj=>?_) (dz.refl _ _ _))
   ·obtain ⟨h1,h2⟩:=hB j hj
    rcases D.pair i j o oj h1 ho hoj with h|h
    ·exact absurd (hcl j i h2 h) hnl
    grind
   ·have h1:=List.mem_range.1 hj
    rcases D.pair j i oj o h1 hoj ho with h|h
    ·simp_all [Li,ba]
    grind
  have hok':=wW hag hok
  obtain ⟨hp,hopn⟩:=uC (K:=K) D.pa.symm hok' ho (fun j oj d h1 h2 h3=>D.one j i oj o d h1 ho h2 h3)
  refine xZ D.hP D.fF hs hp hnl hopn hag hop (fun β' a' w' hs'=>?_)
  have hstp:(fN ops es s0 ((List.range ops.size).filter (ba listed))).app i o (es i)=fN ops es s0 ((List.range ops.size).filter (ba (listed.setIfInBounds i true))):=by
   have h1:(fN ops es s0 ((List.range ops.size).filter (ba listed))).app i o (es i)=vR ops es (fN ops es s0 ((List.range ops.size).filter (ba listed))) i:=by grind [vR]
   rw [h1,e1,e2,kM,kM,fY]
   refine (AF B _ (fun j hj=>?_)).symm
   obtain ⟨h2,h3⟩:=hB j hj
   refine ⟨by omega,fun oi oj hoi hoj=>?_⟩
   rcases D.pair i j oi oj h2 hoi hoj with h|h
   ·exact absurd (hcl j i h3 h) hnl
   grind
  rw [hstp] at hs'
  refine hKc β' a' w' (by grind) ?_ (wK hcl hilt ho hr) (hs'.qK fun j hj=>?_)
  ·grind
  ·refine ⟨fun hl=>hj ((tw hilt j).2 (.inl hl)),fun e=>hj ((tw hilt j).2 (.inr e))⟩
 intro fuel
 induction fuel with
 | zero =>
  intro listed β a w hsz hlen hcl hs
  have hall:∀ j,j<ops.size→Li listed j:=by
   have e:(List.range ops.size).filter (ba listed)=List.range ops.size:=by grind [List.range,ba,List.filter_sublist]
   intro j hj
   have:=List.filter_eq_self.1 e j (List.mem_range.2 hj)
   exact this
  refine ⟨?_,whole listed β a w hsz hall hs⟩
  cases hr:Region.ready .any ops listed with
  | nil=>rfl
  | cons i l =>
   obtain ⟨h1,h2,_⟩:=qk (ops:=ops) (listed:=listed) (i:=i) (by grind)
   grind
 | succ fuel ih =>
  intro listed β a w hsz hlen hcl hs
  refine ⟨fun hr=>?_,fun i hi=>step fuel listed β a w hsz hlen hcl hs i hi _ (fun β' a' w' h1 h2 h3 h4=>ih _ β' a' w' h1 h2 h3 h4)⟩
  refine whole listed β a w hsz (fun j hj=>?_) hs
  apply Classical.byContradiction
  intro hnot
  obtain ⟨i,h1,h2,h3⟩:=zK (L:=Li listed) (n:=ops.size) (fun h=>hnot (h j hj))
  have ho:ops[i]? = some ops[i]:=by simp
  have:i∈Region.ready .any ops listed:=by
   refine mem_ready.2 ⟨?_,ops[i],ho,fun e he hbd=>h3 e.on (D.back i _ ho e he hbd)⟩
   grind
  grind
end
structure dH where
  fr : Nat → AV
  H : ef
  c : Nat
structure gU (K : Ctx) (β : bo) (s : dH) (a : Act) (w : World) : Prop where
  slot : ∀ n, Rel β w (s.fr n) (a.tmps.getD n undef)
  size : a.tmps.size = K.nt
  defers : Marks K a.defers w
  heap : ∀ id o, s.H id = some o → gS β w o id
  inj : xm β
  fresh : ∀ id, s.c ≤ id → β.m id = none
  live : ∀ id b n mu, β.m id = some (.bx b n mu) → (K.B ≤ b ∨ K.G b) ∧ b < w.heap.size
  zq : ∀ id o, K.b0 id = some o → ∃ o', β.m id = some o' ∧ o.later o'
  bF : β.F = K.F
  hF : ∀ b, K.F b → b < K.B ∧ ¬ K.G b
  kept : Kept K.B K.G K.w0 w
  hB : K.B ≤ w.heap.size
  iW : mc K.gl β w
def Opq (P:Program) (gl:dE) (ng nt:Nat) (c:Code) (s s':dH):Prop :=
 ∀ K β a w,K.P=P→K.gl=gl→K.nt=nt→(∀ id,ng≤id→K.b0 id=none)→K.qt=false→P.follows .mixedOrders=true→gU K β s a w→c.wp P (fun e a' w'=>e=.normal∧∃ β',gU K β' s' a' w') a w
inductive nY where
  | normal
  | leave (id : Nat)
  | ret
inductive Tree where
  | bad (why : String)
  | fin (p : Prop)
  | br (b : Bool) (t e : Tree)
  | bf (p : Prop) (t : Tree)
  | DD (g : Bool) (f : FuncId) (args : List AV) (k : AV → Tree)
  | BS (g : Bool) (f : FuncId) (args : List AV) (k : AV → Tree)
  | Fa (f : FuncId) (n : Nat) (obs : List Ob) (args : List AV) (k : AV → List (Option Ob) → Tree)
  | loop (x : Code) (s : dH) (k : dH → (dH → Prop) → Tree)
  | again (s : dH) (p : dH → Prop)
  | Bf (ng nt : Nat) (c : Code) (s : dH) (k : dH → Tree)
  | out (v : Option (AV × List (Option Ob))) (r : AV) (obs : List (Option Ob))
def Has (os:List (Option Ob)) (β:bo):Prop:=∀ (k:Nat) o,os[k]? = some (some o)→β.m k≠none
def aw (os:List (Option Ob)) (a b:AV):Prop:=∀ β w v,Has os β→Rel β w a v→Rel β w b v
theorem aw.refl {os:List (Option Ob)} (a:AV):aw os a a:=fun _ _ _ _ h=>h
theorem aw.of_eq {os:List (Option Ob)} {a b:AV} (h:a=b):aw os a b:=h▸aw.refl a
theorem aw.nil {os:List (Option Ob)} {k es i:Nat} {o:Ob} (h:os[k]? = some (some o)):aw os .bc (.aZ k es i 0):=fun _ _ _ hh hr=>by
 cases hr
 exact .jN (hh k o h)
def tyc (f g:bz):Bool:=match g with
 | .ty t _=>(match f with|.ty t' _=>Nat.beq t' nB||Nat.beq t' t|_=>false)
 | _=>true
theorem C4 (f:bz):tyc f f=true:=by
 cases f with
 | ty t f=>exact Bool.or_eq_true_iff.2 (.inr (Nat.beq_refl _))
 | _=>rfl
theorem Bk {f g:bz} (h:tyc f g=true) {t:TypeId} (hg:g.iX=some t):f.iX=some nB∨f.iX=some t:=by
 cases g with
 | ty t1 g1 =>
  cases hg
  cases f with
  | ty t2 f1 =>
   rcases Bool.or_eq_true_iff.1 h with h|h
   ·exact .inl (congrArg some (Nat.eq_of_beq_eq_true h))
   ·exact .inr (congrArg some (Nat.eq_of_beq_eq_true h))
  | _=>cases h
 | _=>cases hg
structure aH (os : List (Option Ob)) (o o' : Ob) : Prop where
  es0 : (o.es, tyc o.f o'.f) = (o'.es, true)
  n : o.n = o'.n
  mu : o.mu = o'.mu
  f : ∀ i j, i < o.n → j < o.es → aw os (o.f i j) (o'.f i j)
theorem aH.es {os:List (Option Ob)} {o o':Ob} (h:aH os o o'):o.es=o'.es:=(Prod.mk.inj h.es0).1
theorem C9.tO {os:List (Option Ob)} {o o':Ob} {b:Nat} {cs:Array Value} {el:TypeId} (h:aH os o o') (k:C9 b o.n o.es o.f cs el):C9 b o'.n o'.es o'.f cs el :=
 ⟨by rw [← h.es,← h.n];exact k.le,fun t ht=>by
  rw [← h.es,← h.n]
  rcases Bk (Prod.mk.inj h.es0).2 ht with e|e
  ·exact absurd rfl (k.ty _ e).1
  ·exact k.ty t e⟩
def eJ (os:List (Option Ob)):List (Option Ob)→List (Option Ob)→Prop
 | [],[]=>True
 | _::l,none::l'=>eJ os l l'
 | some o::l,some o'::l'=>aH os o o'∧eJ os l l'
 | _,_=>False
theorem eJ.spec {os:List (Option Ob)}:∀ {l l':List (Option Ob)},eJ os l l'→l.length=l'.length∧∀ (k:Nat) o',l'[k]? = some (some o')→∃ o,l[k]? = some (some o)∧aH os o o'
 | [],[],_=>⟨rfl,fun k o' h=>by grind⟩
 | x::l,none::l',h=>by
  obtain ⟨h1,h2⟩:=eJ.spec (l:=l) (l':=l') (by cases x<;>exact h)
  refine ⟨by simp [h1],fun k o' hk=>?_⟩
  cases k with
  | zero=>simp at hk
  | succ k=>simp at hk ⊢;exact h2 k o' hk
 | some o::l,some o'::l',h=>by
  obtain ⟨h1,h2⟩:=eJ.spec h.2
  refine ⟨by simp [h1],fun k o2 hk=>?_⟩
  cases k with
  | zero=>simp at hk;subst hk;exact ⟨o,by simp,h.1⟩
  | succ k=>simp at hk ⊢;exact h2 k o2 hk
 | [],none::l',h=>h.elim
 | [],some o::l',h=>h.elim
 | none::l,[],h=>h.elim
 | some o::l,[],h=>h.elim
 | none::l,some o::l',h=>h.elim
def Tree.wp (P:Program) (gl:dE) (le:dH→dH→Prop):Tree→Prop
 | .bad _=>False
 | .fin p=>p
 | .br b t e=>(b=true→t.wp P gl le)∧(b=false→e.wp P gl le)
 | .bf p t=>p∧t.wp P gl le
 | .DD g f args k=>∃ r,(g=true→Pure P gl f args r)∧sc 9 r=true∧(k r).wp P gl le
 | .BS g f args k=>∃ r,(g=true→Pure P gl f args r)∧(k r).wp P gl le
 | .Fa f n obs args k=>∃ r obs',bC P gl f obs args r obs'∧(Nat.ble n obs'.length&&Nat.ble obs'.length (n+8))=true∧(k r obs').wp P gl le
 | .loop _ s k=>∃ (ι:Type) (S:ι→dH) (m:ι→Nat) (i0:ι),le s (S i0)∧∀ i,(k (S i) (fun s'=>∃ i',le s' (S i')∧m i'<m i)).wp P gl le
 | .again s p=>p s
 | .Bf ng nt c s k=>∃ s',Opq P gl ng nt c s s'∧(k s').wp P gl le
 | .out v r obs=>∃ x os,v=some (x,os)∧aw os x r∧eJ os os obs
def bz.ids (g:AV→List Nat):bz→List Nat
 | .ba l=>l.flatMap fun r=>r.flatMap g
 | .cat _ f h=>f.ids g++h.ids g
 | .put _ x f=>x.flatMap g++f.ids g
 | _=>[]
def pv:Nat→ef→AV→List Nat
 | 0,_,_=>[]
 | n+1,H,.own id _ i j m=>id::(match H id with
  | some o=>(List.range m).flatMap (fun q=>pv n H (o.f i (j+q)))
  | none=>[])
 | _+1,_,.l7 id _ _ _ _ _=>[id]
 | n+1,H,.aZ id _ _ _=>id::(match H id with
  | some o=>o.f.ids (pv n H)
  | none=>[])
 | n+1,H,.agg cs=>cs.flatMap (pv n H)
 | n+1,H,.aT cs=>cs.flatMap (pv n H)
 | n+1,H,.fn _ fs cs=>fs.flatMap (pv n H)++cs.flatMap (pv n H)
 | n+1,H,.l4 _ v=>pv n H v
 | _+1,_,_=>[]
def CJ:List Nat→List Nat
 | []=>[]
 | x::l=>bif bZ l x then CJ l else x::CJ l
def alive (H:ef) (l:List Nat):List Nat:=CJ (l.filter fun id=>(H id).isSome)
def iV (H:ef) (id:Nat):Bool:=match H id with|some o=>o.mu|none=>false
def fp:Tag→Bool|none=>true|some _=>false
def scT (P:Program):Nat→TypeId→Bool
 | 0,_=>false
 | n+1,t=>match P.underlying t with
  | some .bool|some (.int _)|some .string=>true
  | some (.struct fs)=>fs.all (fun f=>scT P n f.type)
  | some (.array _ e)=>scT P n e
  | some (.tuple ts)=>ts.all (scT P n)
  | _=>false
def mD:AV→List Nat
 | .own id _ _ _ _=>[id]
 | .aZ id _ _ _=>[id]
 | .l7 id _ _ _ _ _=>[id]
 | _=>[]
def gI (ρ:Operand→AV):Op→en
 | .load _ a=>⟨mD (ρ a),[],[]⟩
 | .store _ a _=>⟨mD (ρ a),[],mD (ρ a)⟩
 | .nilCheck x=>⟨[],mD (ρ x),[]⟩
 | .binOp _ _ x _ _=>⟨[],mD (ρ x),[]⟩
 | .convert s d x=>⟨mD (ρ x),[],bif Nat.beq s d then mD (ρ x) else []⟩
 | .fieldAddr _ x _=>⟨[],mD (ρ x),[]⟩
 | .indexAddr _ x _=>⟨[],mD (ρ x),[]⟩
 | .slice _ x _ _ _=>⟨[],mD (ρ x),[]⟩
 | .call { callee:=.builtin .append,args:=args,.. }=>⟨args.toList.flatMap (fun x=>mD (ρ x)),[],match args.toList with|x::_=>mD (ρ x)|[]=>[]⟩
 | .call { callee:=.builtin _,args:=args,.. }=>⟨[],args.toList.flatMap (fun x=>mD (ρ x)),[]⟩
 | _=>⟨[],[],[]⟩
def wZ (ρ:Operand→AV):Op→en
 | .slice _ x _ _ _=>⟨mD (ρ x),[],[]⟩
 | _=>⟨[],[],[]⟩
def cH (H:ef):List Bool→List AV→List Nat
 | true::m,a::as=>pv 9 H a++cH H m as
 | false::m,_::as=>cH H m as
 | _,_=>[]
def DG (γ:Tag) (g:Bool) (q:Rq) (t:Tree):Tree :=
 match q with
 | .no=>t
 | .yes p=>match γ with
  | none=>.bf p t
  | some _=>.bf (g=true→p) t
def brG (γ:Tag) (g:Bool) (t e:Tree):Tree:=match γ with|none=>t|some _=>.br g t e
def OF (P:Program) (t:TypeId):AV:=match P.underlying t with|some .bool=>.bool false|some (.int k)=>.int k 0|_=>.bw
def i6 (C:tM) (ops:Array Oper) (draw:Bool) (c:Nat):List Oper→Nat→dG→List (en×fB)→(dG→Tree)→Tree
 | [],_,s,acc,k=>bif !draw||pe ops acc.reverse then k s else .bad "draw"
 | o::rest,i,s,acc,k =>
  bif qF C.nt ops s o then
   match eC (ev C.gl s.fr) o.op with
   | some (fn,as)=>match C.own fn with
    | some mask =>
     bif (fp o.guard || !draw)&&(jr ((alive s.H (cH s.H mask as)).filter (iV s.H))&&((alive s.H (cH s.H mask as)).filter (iV s.H)).all (fun id=>fp (s.ht id))) then
      brG o.guard (s.G o.guard) (.Fa fn ((alive s.H (cH s.H mask as)).filter (iV s.H)).length
       (iS ((alive s.H (cH s.H mask as)).filter (iV s.H)) (vH ⟨alive s.H (as.flatMap (pv 9 s.H)),[],(alive s.H (cH s.H mask as)).filter (iV s.H)⟩ s.H))
       (as.map (mapA (gD ((alive s.H (cH s.H mask as)).filter (iV s.H)) 0) 9 (eN ((alive s.H (cH s.H mask as)).filter (iV s.H)) (vH ⟨alive s.H (as.flatMap (pv 9 s.H)),[],(alive s.H (cH s.H mask as)).filter (iV s.H)⟩ s.H))))
       (fun r obs' =>
        bif ((alive s.H (cH s.H mask as)).filter (iV s.H)).all (fun id=>bZ (alive s.H (as.flatMap (pv 9 s.H))) id) then
         i6 C ops draw c rest (i+1)
          (s.app i o.bare ⟨mapA (gO ((alive s.H (cH s.H mask as)).filter (iV s.H)) (c+8*i)) 9 FJ r,true,[],jS ((alive s.H (cH s.H mask as)).filter (iV s.H)) (c+8*i) obs',alive s.H (as.flatMap (pv 9 s.H))⟩)
          ((⟨alive s.H (as.flatMap (pv 9 s.H)),[],(alive s.H (cH s.H mask as)).filter (iV s.H)⟩,
           ⟨mapA (gO ((alive s.H (cH s.H mask as)).filter (iV s.H)) (c+8*i)) 9 FJ r,true,[],jS ((alive s.H (cH s.H mask as)).filter (iV s.H)) (c+8*i) obs',alive s.H (as.flatMap (pv 9 s.H))⟩)::acc) k
        else .bad "given"))
       (i6 C ops draw c rest (i+1) (s.app i o ⟨OF C.P o.type,false,[],[],[]⟩) ((⟨[],[],[]⟩,⟨OF C.P o.type,false,[],[],[]⟩)::acc) k)
     else .bad "given"
    | none =>
     bif scT C.P 9 o.type then
      .DD (s.G o.guard) fn (as.map (n7 9 (vH ⟨alive s.H (as.flatMap (pv 9 s.H)),[],[]⟩ s.H)))
       (fun r=>i6 C ops draw c rest (i+1) (s.app i o ⟨r,s.G o.guard,[],[],[]⟩) ((⟨alive s.H (as.flatMap (pv 9 s.H)),[],[]⟩,⟨r,s.G o.guard,[],[],[]⟩)::acc) k)
     else
      .BS (s.G o.guard) fn (as.map (n7 9 (vH ⟨alive s.H (as.flatMap (pv 9 s.H)),[],[]⟩ s.H)))
       (fun r=>i6 C ops draw c rest (i+1) (s.app i o ⟨r,s.G o.guard,[],[],alive s.H (as.flatMap (pv 9 s.H))⟩) ((⟨alive s.H (as.flatMap (pv 9 s.H)),[],[]⟩,⟨r,s.G o.guard,[],[],alive s.H (as.flatMap (pv 9 s.H))⟩)::acc) k)
   | none=>match qQ C.P (ev C.gl s.fr) (vH (gI (ev C.gl s.fr) o.op) s.H) o.op with
    | some (id,f') =>
     bif fp o.guard&&(bZ (gI (ev C.gl s.fr) o.op).mt id&&(iV s.H id&&fp (s.ht id))) then
      i6 C ops draw c rest (i+1) (s.app i o ⟨.bw,true,[(id,f')],[],[]⟩) ((gI (ev C.gl s.fr) o.op,⟨.bw,true,[(id,f')],[],[]⟩)::acc) k
     else .bad "a store"
    | none=>match rm C.P (ev C.gl s.fr) (vH (gI (ev C.gl s.fr) o.op) s.H) (c+8*i) o.op with
     | some (q,v,ids,x) =>
      bif fp o.guard&&ids.all (fun id=>bZ (gI (ev C.gl s.fr) o.op).mt id&&(iV s.H id&&fp (s.ht id))) then
       .bf q (i6 C ops draw c rest (i+1) (s.app i o ⟨v,true,[],(c+8*i,some x)::ids.map (fun id=>(id,none)),[]⟩) ((gI (ev C.gl s.fr) o.op,⟨v,true,[],(c+8*i,some x)::ids.map (fun id=>(id,none)),[]⟩)::acc) k)
      else .bad "append"
     | none=>match bP C.P (ev C.gl s.fr) (vH (gI (ev C.gl s.fr) o.op) s.H) (c+8*i) o.op with
      | some (q,v,ob)=>DG o.guard (s.G o.guard) q (i6 C ops draw c rest (i+1) (s.app i o ⟨v,s.G o.guard,[],Ge (c+8*i) ob,[]⟩) ((gI (ev C.gl s.fr) o.op,⟨v,s.G o.guard,[],Ge (c+8*i) ob,[]⟩)::acc) k)
      | none=>match nK C.P (ev C.gl s.fr) (vH (wZ (ev C.gl s.fr) o.op) s.H) o.op with
       | some (q,id,v)=>DG o.guard (s.G o.guard) q (i6 C ops draw c rest (i+1) (s.app i o ⟨v,s.G o.guard,[],[],[id]⟩) ((wZ (ev C.gl s.fr) o.op,⟨v,s.G o.guard,[],[],[id]⟩)::acc) k)
       | none=>.bad o.pos
  else .bad o.pos
theorem uK {P:Program} {gl:dE} {le:dH→dH→Prop} {γ:Tag} {g:Bool} {q:Rq} {t:Tree} (h:(DG γ g q t).wp P gl le):(g=true→q.holds)∧t.wp P gl le:=by
 cases q with
 | no=>exact ⟨fun _=>trivial,h⟩
 | yes p =>
  cases γ with
  | none=>exact ⟨fun _=>h.1,h.2⟩
  | some x=>exact ⟨h.1,h.2⟩
theorem gL {γ:Tag} (h:fp γ=true):γ=none:=by cases γ with|none=>rfl|some x=>cases h
theorem rS {H:ef} {id:Nat} (h:iV H id=true):(H id).map Ob.mu=some true:=by grind [iV,id]
theorem Cy {ids mt:List Nat} {H:ef} {id:Nat} (h:vH ⟨ids,[],mt⟩ H id≠none):bZ ids id=true:=by
 cases hm:bZ ids id with
 | true=>rfl
 | false=>exact absurd (by simp only [vH,hm,cond_false];rfl) h
theorem As {C:tM} {le:dH→dH→Prop} {ops:Array Oper} {draw:Bool} {c:Nat} {k:dG→Tree}:∀ (l:List Oper) (i:Nat) (s:dG) (acc:List (en×fB)),(i6 C ops draw c l i s acc k).wp C.P C.gl le →
  lex C ops draw c l i s acc (fun s' acc'=>(draw=true→pe ops acc'.reverse=true)∧(k s').wp C.P C.gl le):=by
 intro l
 induction l with
 | nil =>
  intro i s acc h
  simp only [i6] at h
  cases hd:(!draw||pe ops acc.reverse) with
  | false=>simp only [hd,cond_false] at h;exact h.elim
  | true =>
   simp only [hd,cond_true] at h
   refine ⟨fun hdr=>?_,h⟩
   grind
 | cons o rest ih =>
  intro i s acc h
  simp only [i6] at h
  cases hok:qF C.nt ops s o with
  | false=>simp only [hok,cond_false] at h;exact h.elim
  | true =>
   simp only [hok,cond_true] at h
   refine ⟨hok,?_⟩
   cases hc:eC (ev C.gl s.fr) o.op with
   | some fa =>
    obtain ⟨fn,as⟩:=fa
    simp only [hc] at h
    cases hown:C.own fn with
    | some mask =>
     simp only [hown] at h
     generalize hgids:(alive s.H (cH s.H mask as)).filter (iV s.H)=gids at h
     generalize hall:alive s.H (as.flatMap (pv 9 s.H))=all at h
     cases hb:((fp o.guard || !draw)&&(jr gids&&gids.all (fun id=>fp (s.ht id)))) with
     | false=>simp only [hb,cond_false] at h;exact h.elim
     | true =>
      simp only [hb,cond_true] at h
      simp only [Bool.and_eq_true] at hb
      obtain ⟨hb1,hb2,hb3⟩:=hb
      have hmu:∀ id,id∈gids→(s.H id).map Ob.mu=some true:=fun id hid=>by
       rw [← hgids] at hid
       exact rS (List.mem_filter.1 hid).2
      cases hg:o.guard with
      | none =>
       rw [hg] at h
       simp only [brG] at h
       obtain ⟨r,obs',hG,hlen,h⟩:=h
       cases hb4:gids.all (fun id=>bZ all id) with
       | false=>simp only [hb4,cond_false] at h;exact h.elim
       | true =>
        simp only [hb4,cond_true] at h
        rw [Bool.and_eq_true,Nat.ble_eq,Nat.ble_eq] at hlen
        have eo:o.bare=o:=by cases o;simp only at hg;subst hg;rfl
        rw [eo] at h
        exact .inl ⟨_,_,.gv hg hc hb2 (fun id hid=>⟨List.all_eq_true.1 hb4 id hid,e8.2 hid,hmu id hid,gL (List.all_eq_true.1 hb3 id hid)⟩) (fun id hv _=>Cy hv) hlen hG,ih _ _ _ h⟩
      | some jb =>
       rw [hg] at h hb1
       have hd:draw=false:=by cases draw with|false=>rfl|true=>cases hb1
       refine .inr ⟨hd,fun hGt=>?_,fun hGf=>?_⟩
       ·obtain ⟨r,obs',hG,hlen,h⟩:=h.1 hGt
        cases hb4:gids.all (fun id=>bZ all id) with
        | false=>simp only [hb4,cond_false] at h;exact h.elim
        | true =>
         simp only [hb4,cond_true] at h
         rw [Bool.and_eq_true,Nat.ble_eq,Nat.ble_eq] at hlen
         exact ⟨_,_,⟨fn,as,gids,_,r,obs',hc,hb2,fun id hid=>⟨List.all_eq_true.1 hb4 id hid,e8.2 hid,hmu id hid,gL (List.all_eq_true.1 hb3 id hid)⟩,fun id hv _=>Cy hv,hlen,hG,rfl⟩,ih _ _ _ h⟩
       ·exact ⟨_,_,ih _ _ _ (h.2 hGf)⟩
    | none =>
     simp only [hown] at h
     cases hsc:scT C.P 9 o.type with
     | true =>
      simp only [hsc,cond_true] at h
      obtain ⟨r,h1,h2,h3⟩:=h
      exact .inl ⟨_,_,.sc hc h1 h2,ih _ _ _ h3⟩
     | false =>
      simp only [hsc,cond_false] at h
      obtain ⟨r,h1,h3⟩:=h
      exact .inl ⟨_,_,.dc _ (fun id hv=>Cy hv) hc h1,ih _ _ _ h3⟩
   | none =>
    simp only [hc] at h
    cases he:qQ C.P (ev C.gl s.fr) (vH (gI (ev C.gl s.fr) o.op) s.H) o.op with
    | some x =>
     obtain ⟨id,f'⟩:=x
     simp only [he] at h
     cases hb:(fp o.guard&&(bZ (gI (ev C.gl s.fr) o.op).mt id&&(iV s.H id&&fp (s.ht id)))) with
     | false=>simp only [hb,cond_false] at h;exact h.elim
     | true =>
      simp only [hb,cond_true] at h
      simp only [Bool.and_eq_true] at hb
      obtain ⟨hb1,hb2,hb3,hb4⟩:=hb
      exact .inl ⟨_,_,.st (gL hb1) he hb2 (rS hb3) (gL hb4),ih _ _ _ h⟩
    | none =>
     simp only [he] at h
     cases ha:rm C.P (ev C.gl s.fr) (vH (gI (ev C.gl s.fr) o.op) s.H) (c+8*i) o.op with
     | some x =>
      obtain ⟨q,v,ids,x⟩:=x
      simp only [ha] at h
      cases hb:(fp o.guard&&ids.all (fun id=>bZ (gI (ev C.gl s.fr) o.op).mt id&&(iV s.H id&&fp (s.ht id)))) with
      | false=>simp only [hb,cond_false] at h;exact h.elim
      | true =>
       simp only [hb,cond_true] at h
       rw [Bool.and_eq_true] at hb
       obtain ⟨hq,h⟩:=h
       refine .inl ⟨_,_,.ap (gL hb.1) ha hq (fun id hid=>?_),ih _ _ _ h⟩
       have:=List.all_eq_true.1 hb.2 id hid
       simp only [Bool.and_eq_true] at this
       exact ⟨this.1,rS this.2.1,gL this.2.2⟩
     | none =>
      simp only [ha] at h
      cases hm:bP C.P (ev C.gl s.fr) (vH (gI (ev C.gl s.fr) o.op) s.H) (c+8*i) o.op with
      | some x =>
       obtain ⟨q,v,ob⟩:=x
       simp only [hm] at h
       obtain ⟨h1,h2⟩:=uK h
       exact .inl ⟨_,_,.m hm h1,ih _ _ _ h2⟩
      | none =>
       simp only [hm] at h
       cases dB:nK C.P (ev C.gl s.fr) (vH (wZ (ev C.gl s.fr) o.op) s.H) o.op with
       | some x =>
        obtain ⟨q,id,v⟩:=x
        simp only [dB] at h
        obtain ⟨h1,h2⟩:=uK h
        exact .inl ⟨_,_,.sl dB h1,ih _ _ _ h2⟩
       | none=>simp only [dB] at h;exact h.elim
def dH.tq (s:dH):dG:=⟨s.fr,fun _=>none,fun _=>none,s.H,fun _=>none⟩
def dG.FI (r:dG) (c:Nat):dH :=
 ⟨fun n=>match r.tg n with|none=>r.fr n|some _=>.bw,fun id=>match r.ht id with|none=>r.H id|some _=>none,c⟩
theorem gU.tq {K:Ctx} {β:bo} {s:dH} {a:Act} {w:World} (h:gU K β s a w) (ops:Array Oper):cu K ops s.c (fun _=>True) β s.tq a w :=
 ⟨⟨fun id o ho _=>h.heap id o ho,fun id o ho hg=>by grind [dH.tq,dG.G],h.inj,fun id hid=>h.fresh id (by omega),fun i k _ _=>h.fresh _ (by omega),h.live,h.zq,h.bF,h.hF,h.kept,h.hB,h.iW⟩,
   ⟨fun n=>⟨fun _=>h.slot n,fun hg=>by grind [dH.tq,dG.G]⟩,h.size,h.defers,fun j g b hj=>by grind [dH.tq],fun j o k b hj=>absurd rfl hj,fun n j b hn=>by grind [dH.tq],fun n j b hn=>by grind [dH.tq],fun _ _=>rfl⟩⟩
theorem cu.FI {K:Ctx} {ops:Array Oper} {c:Nat} {E:Nat→Prop} {β:bo} {r:dG} {a:Act} {w:World} (h:cu K ops c E β r a w):gU K β (r.FI (c+8*ops.size)) a w:=by
 refine ⟨fun n=>?_,h.f.size,h.f.defers,fun id o ho=>?_,h.h.inj,h.h.fresh,h.h.live,h.h.zq,h.h.bF,h.h.hF,h.h.kept,h.h.hB,h.h.iW⟩
 ·cases ht:r.tg n with
  | none=>simp only [dG.FI,ht];exact (h.f.slot n).1 (by rw [ht];rfl)
  | some x=>simp only [dG.FI,ht];exact .bw
 ·cases ht:r.ht id with
  | none=>simp only [dG.FI,ht] at ho;exact h.h.heap id o ho (by show r.G (r.ht id)=true;rw [ht];rfl)
  | some x=>grind [dG.FI]
def lO (ops:Array Oper):Bool :=
 (List.range ops.size).all fun j=>match ops[j]? with
  | some oj=>match oj.dst with
   | some d=>(List.range j).all fun i=>match ops[i]? with
    | some oi=>(match oi.dst with|some e => !Nat.beq d e|none=>true)
    | none=>true
   | none=>true
  | none=>true
theorem vp {ops:Array Oper} (h:lO ops=true):∀ (i j:Nat) (oi oj:Oper) (d:Tmp),ops[i]? = some oi→ops[j]? = some oj→oi.dst=some d→oj.dst=some d→i=j:=by
 have key:∀ (i j:Nat) (oi oj:Oper) (d:Tmp),i<j→ops[i]? = some oi→ops[j]? = some oj→oi.dst=some d→oj.dst=some d→False:=by
  intro i j oi oj d hij hi hj hdi hdj
  have hlt:j<ops.size:=(Array.getElem?_eq_some_iff.1 hj).1
  have h1:=List.all_eq_true.1 h j (List.mem_range.2 hlt)
  simp only [hj,hdj] at h1
  have h2:=List.all_eq_true.1 h1 i (List.mem_range.2 hij)
  simp_all
 grind
theorem ku {K:Ctx} {C:tM} {ops:Array Oper} {draw:Bool} {s:dH} {β:bo} {a:Act} {w:World} {k:dG→Tree} {le:dH→dH→Prop} {Q:Exit→Act→World→Prop} (hP:C.P=K.P) (fF:C.gl=K.gl) (pa:C.nt=K.nt)
  (hd:lO ops=true) (h:(i6 C ops draw s.c ops.toList 0 s.tq [] k).wp C.P C.gl le) (hs:gU K β s a w)
  (hQ:∀ β r a w,cu K ops s.c (fun j=>ops.size≤j) β r a w→(k r).wp C.P C.gl le→Q .normal a w) :
  (draw=false→wpOps K.P ops Q (List.range ops.size) a w)∧(draw=true→wpAny K.P .any ops Q ops.size (Array.replicate ops.size false) a { w with drawn:=w.drawn+1 }):=by
 have hlex:=As _ _ _ _ h
 have hone:rR ops:=vp hd
 cases draw with
 | false =>
  refine ⟨fun _=>?_,fun h=>by cases h⟩
  have:=Mu hP fF pa hone (Q:=Q) (fun β r acc a w hr hX=>hQ β r a w hr hX.2) ops.toList 0 s.tq [] β a w (by simp) (by simp) hlex ((hs.tq ops).qK fun _ _=>trivial)
  grind [List.range_eq_range']
 | true =>
  refine ⟨fun h=>(by cases h),fun _=>?_⟩
  obtain ⟨es,fs,h1,h2,h3⟩:=xC ops.toList 0 s.tq [] (by simp) hlex
  have hr:∀ n,List.range' 0 n=List.range n:=fun n=>List.range_eq_range'.symm
  have hdo:pe ops ((List.range ops.size).map fun j=>(fs j,es j))=true:=by grind
  have D:I0 K C ops s.c es fs s.tq Q:=⟨hP,fF,pa,fun j oj hj=>(nT hdo hj).1,fun i j oi oj hij hi hj=>(nT hdo hj).2 i oi hij hi,
   fun j o ho=>by grind,hone,fun β a w hsim=>hQ β _ a w (by omega) (by grind)⟩
  have hs0:gU K β s a { w with drawn:=w.drawn+1 }:=by
   have hk:dF β w β { w with drawn:=w.drawn+1 }:=⟨fun _ o h=>⟨o,h,o.fh⟩,fun _ _ _=>rfl,fun _ _ h=>h,fun _ _ _ h=>h⟩
   exact ⟨fun n=>(hs.slot n).fS hk,hs.size,hs.defers,fun id o ho=>(hs.heap id o ho).imp (fun ⟨b,h1,h2⟩=>⟨b,h1,h2.fS hk rfl⟩) (fun h=>h),hs.inj,hs.fresh,hs.live,hs.zq,hs.bF,hs.hF,
    ⟨hs.kept.os,hs.kept.tape,hs.kept.output,hs.kept.size,hs.kept.block,hs.kept.shape,hs.kept.sX⟩,hs.hB,fun g m h fF=>(hs.iW g m h fF).fS hk⟩
  have hl0:∀ j,ba (Array.replicate ops.size false) j=false:=by
   intro j
   simp only [ba,Array.getD_eq_getD_getElem?]
   grind
  have hf:(List.range ops.size).filter (ba (Array.replicate ops.size false))=[]:=List.filter_eq_nil_iff.2 (fun j _=>by grind)
  refine Ly D ops.size _ β a _ (by simp) (by grind) (fun i j hi=>?_) ?_
  ·simp_all
  ·rw [hf]
   exact (hs0.tq ops).qK fun _ _=>trivial
theorem AO {K:Ctx} {C:tM} {ops:Array Oper} {id:Nat} {draw:Bool} {s:dH} {β:bo} {a:Act} {w:World} {k:dG→Tree} {le:dH→dH→Prop} {Q:Exit→Act→World→Prop} (hP:C.P=K.P) (fF:C.gl=K.gl) (pa:C.nt=K.nt)
  (hm:K.P.follows .mixedOrders=true) (hd:lO ops=true) (h:(i6 C ops draw s.c ops.toList 0 s.tq [] k).wp C.P C.gl le) (hs:gU K β s a w)
  (hQ:∀ β r a w,cu K ops s.c (fun j=>ops.size≤j) β r a w→(k r).wp C.P C.gl le→Q .normal a w):(Code.region id ops draw).wp K.P Q a w:=by
 obtain ⟨h1,h2⟩:=ku hP fF pa hd h hs hQ
 cases draw with
 | false=>exact wp_region (h1 rfl)
 | true=>exact wp_region_any hm (h2 rfl)
def Le (ng:Nat) (s t:dH):Prop:=∀ K β a w,(∀ id,ng≤id→K.b0 id=none)→gU K β s a w→∃ β',gU K β' t a w
def rQ (ops:Array Oper):Bool:=ops.toList.any fun o=>match o.op with|.mapUpdate .. => true|_=>false
def unr (body:(dH→Tree)→dH→Tree):List Bool→dH→Tree
 | [],_=>.bad "rounds"
 | _::l,s=>body (unr body l) s
def kV:Code→Bool
 | .loop _=>true
 | .seq x y=>kV x||kV y
 | .cond _ x y=>kV x||kV y
 | .block _ x=>kV x
 | _=>false
def rounds (C:tM) (x:Code):Option (List Bool):=match C.own 999999999 with
 | none=>none
 | some l=>match C.own 999999998 with
  | none=>some l
  | some _=>bif kV x then none else some l
def run (C:tM):Code→(nY→dH→Tree)→dH→Tree
 | .skip,k,s=>k .normal s
 | .label _,k,s=>k .normal s
 | .region id ops draw,k,s =>
  bif rQ ops then .Bf C.ng C.nt (.region id ops draw) s (fun s'=>k .normal s')
  else bif lO ops then i6 C ops draw s.c ops.toList 0 s.tq [] (fun r=>k .normal (r.FI (s.c+8*ops.size))) else .bad "region"
 | .seq x y,k,s=>run C x (fun e s'=>match e with|.normal=>run C y k s'|.leave id=>k (.leave id) s'|.ret=>k .ret s') s
 | .cond c x y,k,s=>match ev C.gl s.fr c with
  | .bool b=>.br b (run C x k s) (run C y k s)
  | _=>.bad "cond"
 | .block id x,k,s=>run C x (fun e s'=>match e with|.normal=>k .normal s'|.leave j=>bif Nat.beq j id then k .normal s' else k (.leave j) s'|.ret=>k .ret s') s
 | .exit id,k,s=>k (.leave id) s
 | .ret,k,s=>k .ret s
 | .loop x,k,s=>match rounds C x with
  | some l=>unr (fun again s=>run C x (fun e s'=>match e with|.normal=>again s'|.leave id=>k (.leave id) s'|.ret=>k .ret s') s) l s
  | none=>.loop x s (fun S p=>run C x (fun e s'=>match e with|.normal=>.again s' p|.leave id=>k (.leave id) s'|.ret=>k .ret s') S)
 | .rangeFunc g ps x y,k,s=>.Bf C.ng C.nt (.rangeFunc g ps x y) s (fun s'=>k .normal s')
 | _,_,_=>.bad "code"
def jj:Exit→Option nY
 | .normal=>some .normal
 | .exit id=>some (.leave id)
 | .ret=>some .ret
 | _=>none
def rn (K:Ctx) (C:tM) (k:nY→dH→Tree):Exit→Act→World→Prop:=fun e a w=>∃ β s ae,jj e=some ae∧gU K β s a w∧(k ae s).wp C.P C.gl (Le C.ng)
theorem zH {K:Ctx} {C:tM} (hP:C.P=K.P) (fF:C.gl=K.gl) (pa:C.nt=K.nt) (hng:∀ id,C.ng≤id→K.b0 id=none) (hqt:K.qt=false) (hm:K.P.follows .mixedOrders=true) (x:Code) :
  ∀ (k:nY→dH→Tree) (s:dH) (β:bo) (a:Act) (w:World),(run C x k s).wp C.P C.gl (Le C.ng)→gU K β s a w→x.wp K.P (rn K C k) a w:=by
 induction x with
 | skip=>intro k s β a w h hs;exact wp_skip ⟨β,s,.normal,rfl,hs,h⟩
 | label l=>intro k s β a w h hs;exact wp_label ⟨β,s,.normal,rfl,hs,h⟩
 | exit id=>intro k s β a w h hs;exact wp_exit ⟨β,s,.leave id,rfl,hs,h⟩
 | ret=>intro k s β a w h hs;exact wp_ret ⟨β,s,.ret,rfl,hs,h⟩
 | goto l=>intro k s β a w h hs;exact h.elim
 | scope b=>intro k s β a w h hs;exact h.elim
 | refuse w=>intro k s β a w h hs;exact h.elim
 | rangeFunc f p x y =>
  intro k s β a w h hs
  obtain ⟨s',ho,hk⟩:=h
  have:=ho K β a w hP.symm fF.symm pa.symm hng hqt (hP▸hm) hs
  rw [hP] at this
  refine wp_mono this ?_
  rintro e a' w' ⟨rfl,β',hs'⟩
  exact ⟨β',s',.normal,rfl,hs',hk⟩
 | region id ops draw =>
  intro k s β a w h hs
  simp only [run] at h
  cases hu:rQ ops with
  | true =>
   simp only [hu,cond_true] at h
   obtain ⟨s',ho,hk⟩:=h
   have:=ho K β a w hP.symm fF.symm pa.symm hng hqt (hP▸hm) hs
   rw [hP] at this
   refine wp_mono this ?_
   rintro e a' w' ⟨rfl,β',hs'⟩
   exact ⟨β',s',.normal,rfl,hs',hk⟩
  | false =>
  simp only [hu,cond_false] at h
  cases hc:lO ops with
  | false=>simp only [hc,cond_false] at h;exact h.elim
  | true =>
   simp only [hc,cond_true] at h
   refine AO hP fF pa hm hc h hs (fun β' r a' w' hr hX=>?_)
   exact ⟨β',_,.normal,rfl,hr.FI,hX⟩
 | seq x y ihx ihy =>
  intro k s β a w h hs
  refine wp_seq (wp_mono (ihx _ s β a w h hs) ?_)
  rintro e a' w' ⟨β',s',ae,he,hs',hk⟩
  cases e<;>simp only [jj,reduceCtorEq,Option.some.injEq] at he
  ·subst he;exact ihy k s' β' a' w' hk hs'
  ·subst he;exact ⟨β',s',_,rfl,hs',hk⟩
  ·subst he;exact ⟨β',s',_,rfl,hs',hk⟩
 | cond c x y ihx ihy =>
  intro k s β a w h hs
  simp only [run] at h
  split at h
  ·rename_i b hb
   have hrel:Rel β w (ev K.gl s.fr c) (a.eval c):=by
    have:=kB (hs.tq #[]) (x:=c) (fun t _=>rfl)
    exact this
   rw [← fF,hb] at hrel
   have hv:=ca hrel
   refine wp_cond_split hv (fun ht=>ihx k s β a w (h.1 ht) hs) (fun hf=>ihy k s β a w (h.2 hf) hs)
  ·exact h.elim
 | block id x ih =>
  intro k s β a w h hs
  refine wp_block (wp_mono (ih _ s β a w h hs) ?_)
  rintro e a' w' ⟨β',s',ae,he,hs',hk⟩
  cases e<;>simp only [jj,reduceCtorEq,Option.some.injEq] at he
  ·subst he;exact ⟨β',s',_,rfl,hs',hk⟩
  ·rename_i j
   subst he
   simp only [Exit.inBlock]
   by_cases e:j=id
   ·subst e
    rw [if_pos rfl]
    simp only [Nat.beq_refl,cond_true] at hk
    exact ⟨β',s',.normal,rfl,hs',hk⟩
   ·rw [if_neg e]
    have hb:Nat.beq j id=false:=by grind [Nat.beq,id,absurd,Nat.eq_of_beq_eq_true]
    simp only [hb,cond_false] at hk
    exact ⟨β',s',.leave j,rfl,hs',hk⟩
  ·subst he;exact ⟨β',s',_,rfl,hs',hk⟩
 | loop x ih =>
  intro k s β a w h hs
  simp only [run] at h
  cases hun:rounds C x with
  | some l =>
   simp only [hun] at h
   refine wp_loop_rounds l.length ?_
   clear hun
   induction l generalizing s β a w with
   | nil=>exact h.elim
   | cons b l ihl =>
    refine wp_mono (ih _ s β a w h hs) ?_
    rintro e a' w' ⟨β',s',ae,he,hs',hk⟩
    cases e<;>simp only [jj,reduceCtorEq,Option.some.injEq] at he
    ·subst he;exact ihl s' β' a' w' hs' hk
    ·subst he;exact ⟨β',s',_,rfl,hs',hk⟩
    ·subst he;exact ⟨β',s',_,rfl,hs',hk⟩
  | none =>
  simp only [hun] at h
  obtain ⟨ι,S,m,i0,hle,hround⟩:=h
  refine wp_loop_ghost (fun n a w=>∃ i β,m i=n∧gU K β (S i) a w) (m i0) ?_ ?_
  ·obtain ⟨β',hs'⟩:=hle K β a w hng hs
   grind
  ·rintro n a' w' ⟨i,β',rfl,hs'⟩
   refine wp_mono (ih _ (S i) β' a' w' (hround i) hs') ?_
   rintro e a'' w'' ⟨β2,s2,ae,he,hs2,hk⟩
   cases e<;>simp only [jj,reduceCtorEq,Option.some.injEq] at he
   ·subst he
    obtain ⟨i',hle',hlt⟩:=hk
    obtain ⟨β3,hs3⟩:=hle' K β2 a'' w'' hng hs2
    exact ⟨m i',hlt,i',β3,rfl,hs3⟩
   ·subst he;exact ⟨β2,s2,_,rfl,hs2,hk⟩
   ·subst he;exact ⟨β2,s2,_,rfl,hs2,hk⟩
def sS (P:Program) (s:dH):ResultVar→Option AV
 | .tmp t=>some (s.fr t)
 | .cell a t=>match s.fr a with
  | .own id es i j m=>match s.H id with
   | some o=>bif Nat.beq o.es es then qa P t m (fun k=>o.f i (j+k)) else none
   | none=>none
  | _=>none
def oW (P:Program) (s:dH):List ResultVar→Option (List AV)
 | []=>some []
 | x::xs=>match sS P s x,oW P s xs with
  | some v,some vs=>some (v::vs)
  | _,_=>none
def KS (P:Program) (fn:Func) (s:dH):Option AV :=
 match oW P s fn.results.toList with
 | some [v]=>some v
 | some vs=>some (.aT vs)
 | none=>none
def pQ (tmps:Array Value):ResultVar→Sem Value
 | .tmp t=>pure (tmps.getD t undef)
 | .cell a t=>do loadVar t (← asAddr (tmps.getD a undef))
theorem pk (fn:Func) (tmps:Array Value):results fn tmps=(do let vs ← fn.results.mapM (pQ tmps);pure (if h:vs.size=1 then vs[0] else .tuple vs)):=by
 rfl
theorem gU.ok {K:Ctx} {β:bo} {s:dH} {a:Act} {w:World} (hs:gU K β s a w):cN β w s.H:=fun id ob hid _=>by
 rcases hs.heap id ob hid with ⟨b,h1,h2⟩|h
 ·grind
 grind
theorem AB {K:Ctx} {β:bo} {s:dH} {a:Act} {w:World} (hs:gU K β s a w) {x:ResultVar} {v:AV} (h:sS K.P s x=some v) :
  ∃ u,(pQ a.tmps x).run K.P w=.ok u w∧Rel β w v u:=by
 have hH:=hs.ok
 cases x with
 | tmp t=>simp only [sS,Option.some.injEq] at h;subst h;exact ⟨_,rfl,hs.slot t⟩
 | cell b t =>
  simp only [sS] at h
  split at h
  ·rename_i id es i j m hb
   split at h
   ·rename_i o ho
    obtain ⟨hc,h⟩:=bA h
    have dB:=hs.slot b
    rw [hb] at dB
    obtain ⟨bl,bB,hu,hcell,hr,_⟩:=nE hH dB ho (Nat.eq_of_beq_eq_true hc)
    obtain ⟨u,hl,hur⟩:=mU bB hcell hr h
    grind [pQ,asAddr]
   grind
  grind
theorem rb {K:Ctx} {β:bo} {s:dH} {a:Act} {w:World} (hs:gU K β s a w) (xs:List ResultVar):∀ {vs:List AV},oW K.P s xs=some vs →
  ∃ us:List Value,(xs.mapM (pQ a.tmps):Sem (List Value)).run K.P w=.ok us w∧eR β w vs us.toArray:=by
 induction xs with
 | nil=>intro vs h;simp [oW] at h;subst h;exact ⟨[],rfl,rfl,by simp⟩
 | cons x xs ih =>
  intro vs h
  simp only [oW] at h
  split at h
  ·rename_i v vs' h1 h2
   cases h
   obtain ⟨u,hu,hr⟩:=AB hs h1
   obtain ⟨us,hus,hrs⟩:=ih h2
   refine ⟨u::us,?_,?_⟩
   ·simp_all
   ·refine ⟨by have:=hrs.len;grind,fun j p q hp hq=>?_⟩
    cases j with
    | zero=>grind
    | succ j=>exact hrs.rel j p q (by grind) (by grind)
  grind
theorem L5 {K:Ctx} {β:bo} {s:dH} {a:Act} {w:World} {fn:Func} (hs:gU K β s a w) {v:AV} (h:KS K.P fn s=some v):∃ u,(results fn a.tmps).run K.P w=.ok u w∧Rel β w v u:=by
 unfold KS at h
 have hmap:∀ us:List Value,(fn.results.toList.mapM (pQ a.tmps):Sem (List Value)).run K.P w=.ok us w →
   (results fn a.tmps).run K.P w=.ok (if h:us.toArray.size=1 then us.toArray[0] else .tuple us.toArray) w:=by grind [pk,Array.mapM_eq_mapM_toList,Sem.run_bind,Sem.run_map,Result.andThen_ok,Sem.run_pure]
 split at h
 ·rename_i x hx
  cases h
  obtain ⟨us,hus,hr⟩:=rb hs _ hx
  have hl:=hr.len
  match us,hus,hr,hl with
  | [u],hus,hr,_=>exact ⟨u,by grind,hr.rel 0 _ _ rfl rfl⟩
 ·rename_i vs hx hvs
  cases h
  obtain ⟨us,hus,hr⟩:=rb hs _ hvs
  refine ⟨.tuple us.toArray,?_,.aT hr.len hr.rel⟩
  rw [hmap _ hus,dif_neg]
  intro h1
  have hl:=hr.len
  rw [h1] at hl
  match vs,hl,hx with
  | [x],_,hx=>grind
 grind
def kQ (ng:Nat) (hand:Bool) (ags:List AV) (H:ef) (v:AV):List Nat :=
 List.range ng++(bif hand then (alive H (pv 9 H v++ags.flatMap (pv 9 H))).filter (fun id=>Nat.ble ng id&&iV H id) else [])
def uA (P:Program) (fn:Func) (ng:Nat) (hand:Bool) (ags:List AV) (s:dH):Option (AV×List (Option Ob)) :=
 match KS P fn s with
 | some v=>bif jr (kQ ng hand ags s.H v) then
   some (mapA (gD (kQ ng hand ags s.H v) 0) 9 (eN (kQ ng hand ags s.H v) s.H) v,(kQ ng hand ags s.H v).map fun id=>(s.H id).map (wk (gD (kQ ng hand ags s.H v) 0) (eN (kQ ng hand ags s.H v) s.H)))
  else none
 | none=>none
def JY (P:Program) (fn:Func) (ng:Nat) (hand:Bool) (ags:List AV) (r:AV) (obs':List (Option Ob)):nY→dH→Tree
 | .normal,s=>.out (uA P fn ng hand ags s) r obs'
 | .ret,s=>.out (uA P fn ng hand ags s) r obs'
 | .leave _,_=>.bad "leave"
def entry (args:List AV) (obs:List Ob):dH:=⟨fun n=>args.getD n .bw,fun id=>obs[id]?,obs.length⟩
inductive NM : AV → Prop where
  | int {k : IntKind} {n : Int} : NM (.int k n)
  | bool {b : Bool} : NM (.bool b)
  | str {s : ByteArray} : NM (.str s)
  | bc : NM .bc
  | pJ : NM .pJ
  | raw {v : Value} : NM (.raw v)
  | own {id es i j m : Nat} : NM (.own id es i j m)
  | aZ {id es i len : Nat} : NM (.aZ id es i len)
  | l7 {id es i base len k : Nat} : NM (.l7 id es i base len k)
  | aG {es n : Nat} {f : Nat → Nat → AV} (h : ∀ i j, i < n → j < es → NM (f i j)) : NM (.aG es n f)
  | bH {m : Nat} {g : Nat → AV} (h : ∀ j, j < m → NM (g j)) : NM (.bH m g)
  | agg {cs : List AV} (h : ∀ u, u ∈ cs → NM u) : NM (.agg cs)
  | aT {cs : List AV} (h : ∀ u, u ∈ cs → NM u) : NM (.aT cs)
  | fn {f : Fn} {fs cs : List AV} (h : ∀ u, u ∈ fs → NM u) (h' : ∀ u, u ∈ cs → NM u) : NM (.fn f fs cs)
  | l4 {t : TypeId} {v : AV} (h : NM v) : NM (.l4 t v)
  | nn {v : AV} (h : NM v) : NM (.nn v)
  | bw : NM .bw
def lR (w w':World) (p:Prop):Prop:=(∀ (b:Nat) (es:Array MapEntry) (z:Nat),w.heap[b]? = some (.map es z)→w'.heap[b]? = some (.map es z))∨p
theorem lR.mono {w w':World} {p q:Prop} (h:lR w w' p) (k:p→q):lR w w' q:=h.imp (fun h=>h) k
theorem Rel.same {β:bo} {w w':World} (hc:∀ (b:Nat) (cs:Array Value) (el:TypeId) (z:Nat×Nat),w.heap[b]? = some (.cells cs el z)→w'.heap[b]? = some (.cells cs el z)) {a:AV} {v:Value} (hx:lR w w' (NM a)) (h:Rel β w a v):Rel β w' a v:=by
 have cell:∀ (p:Addr) v,w.cell? p=some v→w'.cell? p=some v:=fun p v hp=>by grind [World.cell?]
 have shp:∀ b el sz,w.shape? b=some (el,sz)→w'.shape? b=some (el,sz):=fun b el sz hp=>by grind [World.shape?]
 induction h with
 | int=>exact .int
 | bool=>exact .bool
 | str=>exact .str
 | bc=>exact .bc
 | pJ=>exact .pJ
 | raw h=>exact .raw h
 | own h hi hj=>exact .own h hi hj
 | ks h=>exact .ks h
 | l7 h hi hk hl=>exact .l7 h hi hk hl
 | lT h=>exact .lT h
 | aZ h hn hc' hs hz=>exact .aZ h hn hc' (shp _ _ _ hs) hz
 | jN h=>exact .jN h
 | lB h=>exact .lB h
 | aG bB he hcap hb hcc ho hr hcl ih=>exact .aG bB he hcap hb (fun i j hi hj=>cell _ _ (hcc i j hi hj)) ho (fun i j hi hj=>ih i j hi hj (hx.mono fun h=>by cases h<;>grind)) hcl
 | gT h=>exact .gT h
 | bH bB hm hb hcc ho hr hcl ih=>exact .bH bB hm hb (fun j hj=>cell _ _ (hcc j hj)) ho (fun j hj=>ih j hj (hx.mono fun h=>by cases h<;>grind)) hcl
 | agg hl _ ih=>exact .agg hl (fun j u v hu hv=>ih j u v hu hv (hx.mono fun h=>by cases h<;>grind))
 | aT hl _ ih=>exact .aT hl (fun j u v hu hv=>ih j u v hu hv (hx.mono fun h=>by cases h<;>grind))
 | fn hl _ hl' _ ih ih'=>exact .fn hl (fun j u v hu hv=>ih j u v hu hv (hx.mono fun h=>by cases h<;>grind)) hl' (fun j u v hu hv=>ih' j u v hu hv (hx.mono fun h=>by cases h<;>grind))
 | l4 _ ih=>exact .l4 (ih (hx.mono fun h=>by cases h<;>grind))
 | nn _ ih=>exact .nn (ih (hx.mono fun h=>by cases h<;>grind))
 | pT hb hs =>
  rcases hx with hx|hx
  ·obtain ⟨es,z,he⟩:=hs.map
   exact .pT hb (hs.fS ((hx _ _ _ he).trans he.symm))
  ·cases hx
 | bw=>exact .bw
theorem gS.same {β:bo} {w w':World} (hc:∀ (b:Nat) (cs:Array Value) (el:TypeId) (z:Nat×Nat),w.heap[b]? = some (.cells cs el z)→w'.heap[b]? = some (.cells cs el z)) {o:Ob} {id:Nat} (hx:lR w w' (∀ i j,i<o.n→j<o.es→NM (o.f i j))) (h:gS β w o id):gS β w' o id:=by
 rcases h with ⟨b,h1,cs,el,h2,h3,h4⟩|h
 ·exact .inl ⟨b,h1,cs,el,hc _ _ _ _ h2,h3,fun i j hi hj=>let ⟨v,g1,g2,g3⟩:=h4 i j hi hj;⟨v,g1,g2.same hc (hx.mono fun h=>h i j hi hj),g3⟩⟩
 ·exact .inr h
def NMS (s:dH):Prop:=(∀ n,NM (s.fr n))∧∀ id o,s.H id=some o→∀ i j,i<o.n→j<o.es→NM (o.f i j)
def NMG (gl:dE):Prop:=∀ g m h,gl g=some (m,h)→NM (.bH m h)
theorem gh.same {β:bo} {w w':World} (hc:∀ (b:Nat) (cs:Array Value) (el:TypeId) (z:Nat×Nat),w.heap[b]? = some (.cells cs el z)→w'.heap[b]? = some (.cells cs el z)) {g m:Nat} {f:Nat→AV} (hx:lR w w' (NM (.bH m f))) (h:gh β w g m f):gh β w' g m f:=by
 refine ⟨h.rel.same hc hx,?_⟩
 obtain ⟨el,e⟩:=h.size
 grind [World.shape?]
theorem gU.same {K:Ctx} {β:bo} {s:dH} {a a':Act} {w w':World} (hs:gU K β s a w) (hc:∀ (b:Nat) (cs:Array Value) (el:TypeId) (z:Nat×Nat),w.heap[b]? = some (.cells cs el z)→w'.heap[b]? = some (.cells cs el z)) (hsz:w.heap.size≤w'.heap.size)
  (hx:lR w w' (NMS s∧NMG K.gl)) (hk:Kept K.B K.G K.w0 w') (ht:a'.tmps=a.tmps) (hd:Marks K a'.defers w'):gU K β s a' w' :=
 ⟨fun n=>by rw [ht];exact (hs.slot n).same hc (hx.mono fun h=>h.1.1 n),by rw [ht];exact hs.size,hd,fun id o ho=>(hs.heap id o ho).same hc (hx.mono fun h=>h.1.2 id o ho),hs.inj,hs.fresh,fun id b n mu h=>⟨(hs.live id b n mu h).1,Nat.lt_of_lt_of_le (hs.live id b n mu h).2 hsz⟩,
  hs.zq,hs.bF,hs.hF,hk,Nat.le_trans hs.hB hsz,fun g m h fF=>(hs.iW g m h fF).same hc (hx.mono fun h'=>h'.2 g m h fF)⟩
theorem mN {F:Fence} {n:Nat} {K:Ctx} {β:bo} {s:dH} {fn:Func} {R:Ending→World→Prop}:∀ (Ds:List Nat) (a:Act) (w:World),Ds.Nodup→(∀ D,D∈Ds→K.B≤D∧K.w0.heap.size≤D∧w.heap[D]? = some (.deferred (some []))) →
  gU K β s { a with defers:=[] } w→(∀ w',gU K β s { a with defers:=[] } w'→LeavesInM F n K.P fn a.tmps R [] .returning w') →
  LeavesInM F n K.P fn a.tmps R (Ds.map fun D=>{ target:=.collected D,args := #[] }) .returning w
 | [],a,w,_,_,hs,h=>h w hs
 | D::Ds,a,w,hn,hD,hs,h=>by
  obtain ⟨h1,h2,h3⟩:=hD D (List.mem_cons_self ..)
  rw [List.nodup_cons] at hn
  refine ⟨by simp,.inl ⟨D,_,rfl,run_takeDeferred h3,mN Ds a _ hn.2 (fun D' hD'=>?_) (hs.same (fun b cs el z hb=>?_) (by simp) (.inl fun b es z hb=>(World.putObj_heap_other (fun e=>by grind)).trans hb) ?_ rfl (Marks.nil _ _)) h⟩⟩
  ·grind [List.mem_cons_of_mem,World.putObj_heap_other,trans]
  ·grind [World.putObj_heap_other,trans]
  ·refine ⟨hs.kept.os,hs.kept.tape,hs.kept.output,Nat.le_trans hs.kept.size (by simp),fun k hk hg=>?_,fun k hk=>?_,fun k o hk ho=>?_⟩
   ·exact (World.putObj_heap_other (by omega)).trans (hs.kept.block k hk hg)
   ·rw [cA (World.putObj_heap_other (by omega):(w.putObj D _).heap[k]? = w.heap[k]?)];exact hs.kept.shape k hk
   ·have:=(Array.getElem?_eq_some_iff.1 hk).1
    exact (World.putObj_heap_other (by omega)).trans (hs.kept.sX k o hk ho)
theorem D6 {P:Program} {gl:dE} {own:FuncId→Option (List Bool)} {hand:Bool} {f:FuncId} {fn:Func} {code:Code} {obs:List Ob} {args:List AV} {r:AV} {obs':List (Option Ob)} (hf:P.funcs[f]? = some fn) (hb:fn.body=some code) (hname:(fn.name == "runtime.NumGoroutine")=false)
  (hn:Nat.ble args.length fn.ntmps=true)
  (hrun:∀ (K:Ctx) (β:bo) (a:Act) (w:World),K.P=P→K.gl=gl→K.nt=fn.ntmps→(∀ id,obs.length≤id→K.b0 id=none)→K.qt=false→K.B=K.w0.heap.size→gU K β (entry args obs) a w→code.wp P (rn K ⟨P,gl,fn.ntmps,own,obs.length⟩ (JY P fn obs.length hand args r obs')) a w):bC P gl f obs args r obs':=by
 rw [Nat.ble_eq] at hn
 refine ⟨⟨fn,code,hf,hb,hname⟩,fun β w vs hF hgiv fF hargs=>?_⟩
 refine callsIn_wide.1 (callsIn_of_wp_marks (n:=0) hf hb trivial (wpIn_wide.2 ?_) rfl)
 let K:Ctx:=⟨P,gl,w.heap.size,w,fn.ntmps,β.F,qe β,β.m,false⟩
 have hl:=hargs.len
 have hs:gU K β (entry args obs) { tmps:=vs++Array.replicate (fn.ntmps - vs.size) undef,defers:=[] } w:=by
  refine ⟨fun n=>?_,(by grind),Marks.nil _ _,fun id o ho=>hgiv.holds id o ho,hgiv.inj,fun id hid=>hgiv.none id hid,
   fun id b n mu h=>⟨.inr ⟨id,n,mu,h⟩,(hgiv.lt id b n mu h).1⟩,fun id o ho=>⟨o,ho,o.fh⟩,rfl,fun b hb=>⟨hF b hb,fun ⟨k,n,mu,h⟩=>(hgiv.lt k b n mu h).2 hb⟩,Kept.refl _ _ _,Nat.le_refl _,fF⟩
  show Rel _ _ (args.getD n .bw) _
  rw [Array.getD_eq_getD_getElem?,List.getD_eq_getElem?_getD]
  by_cases hlt:n<args.length
  ·rw [Array.getElem?_append_left (by omega)]
   have h1:args[n]? = some args[n]:=by simp
   obtain ⟨x,hx,hr⟩:=hargs.at h1
   grind
  ·rw [List.getElem?_eq_none (by omega)]
   exact .bw
 refine wp_mono (hrun K β _ _ rfl rfl rfl (fun id hid=>hgiv.none id hid) rfl rfl hs) ?_
 have fin:∀ (β1:bo) (s:dH) (a:Act) (w':World),gU K β1 s a w'→(∃ x os,uA P fn obs.length hand args s=some (x,os)∧aw os x r∧eJ os os obs') →
   ∃ v,(results fn a.tmps).run P w'=.ok v w'∧∃ v' β',Ending.returned v=Ending.returned v'∧Kept w.heap.size (qe β) w w'∧ER β β' w w' obs'∧Rel β' w' r v':=by
  rintro β1 s a w' hs' ⟨x,os,hx,hent,hobs⟩
  unfold uA at hx
  split at hx
  rotate_left
  ·grind
  rename_i v hv
  obtain ⟨hnd,hx⟩:=bA hx
  simp only [Option.some.injEq,Prod.mk.injEq] at hx
  obtain ⟨hx1,hx2⟩:=hx
  generalize hids:kQ obs.length hand args s.H v=ids at hnd hx1 hx2
  obtain ⟨u,hu,hr⟩:=L5 hs' hv
  have hpre:∀ k,k<obs.length→ids[k]? = some k:=fun k hk=>by grind [kQ,List.getElem?_append_left,List.getElem?_range]
  have hlen:obs.length≤ids.length:=by grind
  have hnd':=kI hnd
  let bm:Nat→Option Own:=fun k=>match ids[k]? with|some id=>β1.m id|none=>none
  let β':bo:=⟨bm,β1.F⟩
  have bm_some:∀ {k o},bm k=some o→∃ id,ids[k]? = some id∧β1.m id=some o:=by grind
  have bm_at:∀ {k id},ids[k]? = some id→bm k=β1.m id:=fun {k id} h=>by grind
  have hHr:cN β1 w' (eN ids s.H):=by
   intro id ob hid hne
   unfold eN at hid
   cases hmem:bZ ids id with
   | true=>grind
   | false=>simp only [hmem,cond_false] at hid;exact hs'.ok id ob hid hne
  have h1:∀ id k,gD ids 0 id=some k→β1.m id≠none→β'.m k=β1.m id:=fun id k h _=>by
   obtain ⟨_,h2⟩:=lZ h
   grind
  have h2:∀ b,β1.free b→β'.free b:=fun b hf=>⟨hf.1,fun k n h=>by
   obtain ⟨id,_,hm'⟩:=bm_some h
   exact hf.2 id n hm'⟩
  have h3:∀ id ob b n mu,eN ids s.H id=some ob→β1.m id=some (.bx b n mu)→β'.free b:=by
   intro id ob b n mu ho hm'
   unfold eN at ho
   cases hmem:bZ ids id with
   | true=>grind
   | false =>
    refine ⟨fun hF'=>?_,fun k n' h=>?_⟩
    ·have hF2:β1.F b:=hF'
     rw [hs'.bF] at hF2
     obtain ⟨g1,g2⟩:=hs'.hF b hF2
     rcases (hs'.live id b n mu hm').1 with h|h
     ·omega
     grind
    ·obtain ⟨id',hk,hm2⟩:=bm_some h
     have:=hs'.inj id' id b n' n _ mu hm2 hm'
     grind [e8,List.mem_of_getElem?]
  obtain ⟨hl1,hobs'⟩:=hobs.spec
  have hHas:Has os β':=fun k o hk=>by
   rw [← hx2,List.getElem?_map] at hk
   cases hik:ids[k]? with
   | none=>grind
   | some id =>
    simp only [hik,Option.map_some,Option.some.injEq,Option.map_eq_some_iff] at hk
    obtain ⟨o0,g3,_⟩:=hk
    show bm k≠none
    rw [bm_at hik]
    rcases hs'.heap id o0 g3 with ⟨b,g,_⟩|⟨g,_⟩<;>(grind)
  refine ⟨u,hu,u,β',rfl,hs'.kept,⟨?_,fun k ob hk=>?_,fun k hk=>?_,fun p q b n n' mu mu' e1 e2=>?_,fun k b n mu h=>?_,fun k o ho=>?_⟩,hent _ _ _ hHas ?_⟩
  ·exact hs'.bF
  ·obtain ⟨o1,g1,g2⟩:=hobs' k ob hk
   rw [← hx2,List.getElem?_map] at g1
   cases hik:ids[k]? with
   | none=>grind
   | some id =>
    simp only [hik,Option.map_some,Option.some.injEq,Option.map_eq_some_iff] at g1
    obtain ⟨o0,g3,rfl⟩:=g1
    have hh:=jV (β':=β') hHr h1 h2 h3 (bm_at hik) (hs'.heap id o0 g3)
    have e1:=g2.es;have e2:=g2.n;have e3:=g2.mu;have e4:=g2.f
    rcases hh with ⟨b,k1,cs,el,k2,k3,k4⟩|⟨k1,k2⟩
    ·refine .inl ⟨b,by grind,cs,el,k2,k3.tO g2,fun i j hi hj=>?_⟩
     rw [← e2] at hi
     rw [← e1] at hj ⊢
     obtain ⟨vv,j1,j2,j3⟩:=k4 i j hi hj
     exact ⟨vv,j1,e4 i j hi hj _ _ _ hHas j2,j3⟩
    ·exact .inr ⟨k1,by omega⟩
  ·grind
  ·obtain ⟨x1,g1,g2⟩:=bm_some e1
   obtain ⟨y1,g3,g4⟩:=bm_some e2
   have:=hs'.inj x1 y1 b n n' mu mu' g2 g4
   grind
  ·obtain ⟨id,g1,g2⟩:=bm_some h
   have:=hs'.live id b n mu g2
   grind
  ·have hk:k<obs.length:=Nat.lt_of_not_le fun h=>by rw [hgiv.none k h] at ho;grind
   obtain ⟨o',g1,g2⟩:=hs'.zq k o ho
   grind
  grind [kH]
 have out:∀ (β1:bo) (s:dH) (a:Act) (w':World),gU K β1 s a w'→(∃ x os,uA P fn obs.length hand args s=some (x,os)∧aw os x r∧eJ os os obs') →
   LeavesInM Fence.wide 0 P fn a.tmps (fun e w'=>∃ v β',e=.returned v∧Kept w.heap.size (qe β) w w'∧ER β β' w w' obs'∧Rel β' w' r v) a.defers .returning w':=by
  intro β1 s a w' hs' hk
  obtain ⟨Ds,h1,h2,_,h3⟩:=hs'.defers
  rw [h1]
  refine mN (K:=K) (β:=β1) (s:=s) Ds a w' h2 h3 (hs'.same (fun _ _ _ _ h=>h) (Nat.le_refl _) (.inl fun _ _ _ h=>h) hs'.kept rfl (Marks.nil _ _)) (fun w2 hs2=>?_)
  obtain ⟨v,hv,h⟩:=fin β1 s _ w2 hs2 hk
  exact ⟨v,hv,h⟩
 rintro e a w' ⟨β1,s,ae,he,hs',hk⟩
 cases e<;>simp only [jj,reduceCtorEq,Option.some.injEq] at he
 ·subst he;exact out β1 s a w' hs' hk
 ·subst he;exact hk.elim
 ·subst he;exact out β1 s a w' hs' hk
theorem Ci {P:Program} {gl:dE} {own:FuncId→Option (List Bool)} {hand:Bool} {f:FuncId} {fn:Func} {code:Code} {obs:List Ob} {args:List AV} {r:AV} {obs':List (Option Ob)} (hf:P.funcs[f]? = some fn) (hb:fn.body=some code) (hname:(fn.name == "runtime.NumGoroutine")=false)
  (hm:P.follows .mixedOrders=true) (hn:Nat.ble args.length fn.ntmps=true) (hwp:(run ⟨P,gl,fn.ntmps,own,obs.length⟩ code (JY P fn obs.length hand args r obs') (entry args obs)).wp P gl (Le obs.length)):bC P gl f obs args r obs' :=
 D6 (own:=own) hf hb hname hn fun _ _ _ _ hP fF pa hng hqt _ hs=>hP▸zH (C:=⟨P,gl,fn.ntmps,own,obs.length⟩) hP.symm fF.symm pa.symm hng hqt (hP.symm▸hm) code _ _ _ _ _ hwp hs
end Go.Am

namespace Go.Am
open Go.IntKind (wrap)
open Int (toNat)
section
variable {x y : Bool} {p q : Prop}
theorem aC:x=true→x=true:=id
theorem aF:x=false→x=false:=id
theorem ah (f:x=true→p) (g:y=true→q) (h:(x&&y)=true):p∧q:=by grind
theorem aj (f:x=false→p) (g:y=false→q) (h:(x&&y)=false):p∨q:=by grind
theorem az (f:x=true→p) (g:y=true→q) (h:(x||y)=true):p∨q:=by grind
theorem au (f:x=false→p) (g:y=false→q) (h:(x||y)=false):p∧q:=by grind
theorem aB (f:x=false→p) (h:(!x)=true):p:=by grind
theorem ay (f:x=true→p) (h:(!x)=false):p:=by grind
theorem cJ (f:x=true→p) (h:(x==true)=true):p:=by grind
theorem cY (f:x=false→p) (h:(x==false)=true):p:=by grind
theorem Ba (f:x=true→p) (h:(x==false)=false):p:=by grind
theorem af {i:Decidable p} (h:@decide p i=true):p:=of_decide_eq_true h
theorem aa {i:Decidable p} (h:@decide p i=false):¬p:=of_decide_eq_false h
theorem ai {a b:Int} (h:(a==b)=true):a=b:=by grind
theorem ao {a b:Int} (h:(a==b)=false):¬a=b:=by grind
theorem aS {a b:Int} (h:(a != b)=true):¬a=b:=by grind
theorem aP {a b:Int} (h:(a != b)=false):a=b:=by grind
end
def cM (os:List (Option Ob)):List AV→List AV→Prop
 | [],[]=>True
 | a::l,b::l'=>aw os a b∧cM os l l'
 | _,_=>False
theorem cM.spec {os:List (Option Ob)}:∀ {l l':List AV},cM os l l'→l.length=l'.length∧∀ (k:Nat) a b,l[k]? = some a→l'[k]? = some b→aw os a b
 | [],[],_=>⟨rfl,fun k a b h=>by simp⟩
 | x::l,y::l',h=>by
  obtain ⟨h1,h2⟩:=cM.spec h.2
  refine ⟨by simp [h1],fun k a b ha hb=>?_⟩
  cases k with
  | zero=>simp at ha hb;subst ha;subst hb;exact h.1
  | succ k=>simp at ha hb;exact h2 k a b ha hb
 | [],_::_,h=>h.elim
 | _::_,[],h=>h.elim
def ji:List Nat→List AV→Nat→AV
 | n::ns,v::vs,k=>bif Nat.beq n k then v else ji ns vs k
 | _,_,_=>.bw
def aY (ns:List Nat) (vs:List AV) (obs:List (Option Ob)):dH:=⟨ji ns vs,fun id=>obs.getD id none,obs.length⟩
def o8 (s:dH) (ns π:List Nat):List AV:=ns.map fun n=>mapA (gD π 0) 9 (eN π s.H) (s.fr n)
def Ae (s:dH) (π:List Nat):List (Option Ob):=π.map fun id=>match s.H id with
 | some o=>some (wk (gD π 0) (eN π s.H) o)
 | none=>bif Nat.ble s.c id && !Nat.blt (id - s.c) 256 then some ⟨(id - s.c) / 256,0,true,.ty nB (.ba [])⟩ else none
def o6 (ng c:Nat) (π:List Nat):Bool:=jr π&&(List.range ng).all fun k=>match π[k]? with|some id=>Nat.beq id k||(Nat.ble c id&&Nat.blt (id - c) 256)|none=>false
structure ql (ng : Nat) (s : dH) (ns π : List Nat) (bB : List AV) (os : List (Option Ob)) : Prop where
  ok : o6 ng s.c π = true
  bB : o8 s ns π = bB
  os : Ae s π = os
theorem nS (β:bo) (w:World) (s:dH) (g:AV→AV) (val:Nat→Value) (os:List (Option Ob)) (hh:Has os β):∀ (ns:List Nat) (vs:List AV),(∀ (k n:Nat) v,ns[k]? = some n→vs[k]? = some v→aw os (g (s.fr n)) v)→(∀ n,Rel β w (g (s.fr n)) (val n))→∀ n,Rel β w (ji ns vs n) (val n)
 | [],_,_,_,_=>.bw
 | _::_,[],_,_,_=>.bw
 | m::ns,v::vs,h,hr,n=>by
  simp only [ji]
  cases hb:Nat.beq m n with
  | true =>
   have:=Nat.eq_of_beq_eq_true hb
   subst this
   exact h 0 m v rfl rfl _ _ _ hh (hr m)
  | false=>exact nS β w s g val os hh ns vs (fun k n v hn hv=>h (k+1) n v (by grind) (by grind)) hr n
theorem ql.le0 {ng:Nat} {s:dH} {ns π:List Nat} {bB vs:List AV} {os obs:List (Option Ob)} (h:ql ng s ns π bB os) (hv:cM os bB vs) (ho:eJ os os obs):Le ng s (aY ns vs obs):=by
 intro K β a w hng hs
 obtain ⟨hok,hvals,hos⟩:=h
 unfold o6 at hok
 rw [Bool.and_eq_true] at hok
 obtain ⟨hnd,hpre⟩:=hok
 have hnd':=kI hnd
 have hpre':∀ k,k<ng→π[k]? = some k∨∃ id,π[k]? = some id∧(Nat.ble s.c id&&Nat.blt (id - s.c) 256)=true:=fun k hk=>by
  have:=List.all_eq_true.1 hpre k (List.mem_range.2 hk)
  cases hp:π[k]? with
  | none=>grind
  | some id =>
   simp only [hp] at this
   rw [Bool.or_eq_true] at this
   rcases this with h|h
   ·grind [Nat.eq_of_beq_eq_true]
   grind
 obtain ⟨hl1,hv'⟩:=hv.spec
 obtain ⟨hl2,ho'⟩:=ho.spec
 have hlo:os.length=π.length:=by grind [Ae]
 let bm:Nat→Option Own:=fun k=>match π[k]? with|some id=>bif Nat.ble s.c id then (bif Nat.blt (id - s.c) 256 then some .dead else some .empty) else β.m id|none=>none
 let β':bo:=⟨bm,β.F⟩
 have bm_lives:∀ {k b n mu},bm k=some (.bx b n mu)→∃ id,π[k]? = some id∧β.m id=some (.bx b n mu):=by grind
 have old:∀ {id},β.m id≠none→Nat.ble s.c id=false:=fun {id} hn=>by
  cases hc:Nat.ble s.c id with
  | false=>rfl
  | true=>rw [Nat.ble_eq] at hc;exact absurd (hs.fresh id hc) hn
 have bm_at:∀ {k id},π[k]? = some id→β.m id≠none→bm k=β.m id:=fun {k id} h hn=>by grind
 have hHr:cN β w (eN π s.H):=by
  intro id ob hid hne
  unfold eN at hid
  cases hmem:bZ π id with
  | true=>grind
  | false=>simp only [hmem,cond_false] at hid;exact hs.ok id ob hid hne
 have h1:∀ id k,gD π 0 id=some k→β.m id≠none→β'.m k=β.m id:=fun id k h hn=>by
  obtain ⟨_,h2⟩:=lZ h
  grind
 have h2:∀ b,β.free b→β'.free b:=fun b hf=>⟨hf.1,fun k n h=>by
  obtain ⟨id,_,hm'⟩:=bm_lives h
  exact hf.2 id n hm'⟩
 have h3:∀ id ob b n mu,eN π s.H id=some ob→β.m id=some (.bx b n mu)→β'.free b:=by
  intro id ob b n mu ho hm'
  unfold eN at ho
  cases hmem:bZ π id with
  | true=>grind
  | false =>
   refine ⟨fun hF'=>?_,fun k n' h=>?_⟩
   ·have hF2:β.F b:=hF'
    rw [hs.bF] at hF2
    obtain ⟨g1,g2⟩:=hs.hF b hF2
    rcases (hs.live id b n mu hm').1 with h|h
    ·omega
    grind
   ·obtain ⟨id',hk,hm2⟩:=bm_lives h
    have:=hs.inj id' id b n' n _ mu hm2 hm'
    grind [e8,List.mem_of_getElem?]
 have hHld:∀ (k:Nat) o,os[k]? = some (some o)→gS β' w o k:=fun k o hk=>by
  rw [← hos,Ae,List.getElem?_map] at hk
  cases hik:π[k]? with
  | none=>grind
  | some id =>
   simp only [hik,Option.map_some,Option.some.injEq] at hk
   cases hH:s.H id with
   | some o0 =>
    simp only [hH,Option.some.injEq] at hk
    subst hk
    have hne:β.m id≠none:=by rcases hs.heap id o0 hH with ⟨b,g,_⟩|⟨g,_⟩<;>(grind)
    exact jV (β':=β') hHr h1 h2 h3 (bm_at hik hne) (hs.heap id o0 hH)
   | none =>
    simp only [hH] at hk
    cases hc:Nat.ble s.c id with
    | false=>grind
    | true =>
     cases hg:Nat.blt (id - s.c) 256 with
     | true=>grind
     | false =>
      simp only [hc,hg,Bool.not_false,Bool.and_self,cond_true,Option.some.injEq] at hk
      subst hk
      exact .inr ⟨by grind,rfl⟩
 have hHas:Has os β':=fun k o hk=>by
  rcases hHld k o hk with ⟨b,g,_⟩|⟨g,_⟩<;>(grind)
 refine ⟨β',fun n=>?_,hs.size,hs.defers,fun id o hid=>?_,fun p q b n n' mu mu' e1 e2=>?_,fun id hid=>?_,fun id b n mu h=>?_,fun id o hid=>?_,hs.bF,hs.hF,hs.kept,hs.hB,fun g m h fF=>(hs.iW g m h fF).fQ h2 (by
  obtain ⟨_,_,_,_,_,_,_,_,hcl,_⟩:=dd (hs.iW g m h fF).rel
  exact .bH hcl)⟩
 ·refine nS β' w s (mapA (gD π 0) 9 (eN π s.H)) (fun n=>a.tmps.getD n undef) os hHas ns vs (fun k m v hm hv1=>?_) (fun m=>kH hHr h1 h2 h3 9 _ _ (hs.slot m)) n
  grind [bB,mapA,gD,eN,o8]
 ·have hid':obs[id]? = some (some o):=by
   have:obs.getD id none=some o:=hid
   grind
  obtain ⟨o1,g1,g2⟩:=ho' id o hid'
  have e1:=g2.es;have e2:=g2.n;have e3:=g2.mu;have e4:=g2.f
  rcases hHld id o1 g1 with ⟨b,k1,cs,el,k2,k3,k4⟩|⟨k1,k2⟩
  ·refine .inl ⟨b,by grind,cs,el,k2,k3.tO g2,fun i j hi hj=>?_⟩
   rw [← e2] at hi
   rw [← e1] at hj ⊢
   obtain ⟨vv,j1,j2,j3⟩:=k4 i j hi hj
   exact ⟨vv,j1,e4 i j hi hj _ _ _ hHas j2,j3⟩
  ·exact .inr ⟨k1,by omega⟩
 ·obtain ⟨x1,g1,g2⟩:=bm_lives e1
  obtain ⟨y1,g3,g4⟩:=bm_lives e2
  have:=hs.inj x1 y1 b n n' mu mu' g2 g4
  grind
 ·have hlen:obs.length≤id:=hid
  grind
 ·obtain ⟨id1,g1,g2⟩:=bm_lives h
  exact hs.live id1 b n mu g2
 ·have hk:id<ng:=Nat.lt_of_not_le fun h=>by grind
  obtain ⟨o',g1,g2⟩:=hs.zq id o hid
  rcases hpre' id hk with hp|⟨id',hp,hg⟩
  ·grind
  ·rw [Bool.and_eq_true] at hg
   exact ⟨.dead,by grind,by cases o<;>trivial⟩
def lU (os:List (Option Ob)):List (Option Ob)→List (Option Ob)→Prop
 | [],[]=>True
 | _::l,none::l'=>lU os l l'
 | some ⟨es,n,mu,f⟩::l,some o'::l'=>aH os ⟨es,n,mu&&o'.mu,f⟩ o'∧lU os l l'
 | _,_=>False
theorem lU.spec {os:List (Option Ob)}:∀ {l l':List (Option Ob)},lU os l l'→∃ l1,eJ os l l1∧l1.length=l'.length ∧
  ∀ id o',l'.getD id none=some o'→∃ o1,l1.getD id none=some o1∧o1.es=o'.es∧o1.n=o'.n∧o1.f=o'.f∧(o'.mu=true→o1.mu=true)
 | [],[],_=>⟨[],trivial,rfl,fun id o' h=>by grind⟩
 | x::l,none::l',h=>by
  obtain ⟨l1,h1,h2,h3⟩:=lU.spec (l:=l) (l':=l') (by cases x<;>exact h)
  refine ⟨none::l1,by cases x<;>exact h1,by simp [h2],fun id o' hk=>?_⟩
  cases id with
  | zero=>simp at hk
  | succ k=>simpa using h3 k o' (by simpa using hk)
 | some ⟨es,n,mu,f⟩::l,some o'::l',h=>by
  obtain ⟨l1,h1,h2,h3⟩:=lU.spec h.2
  refine ⟨some ⟨o'.es,o'.n,mu,o'.f⟩::l1,⟨⟨h.1.es0,h.1.n,rfl,h.1.f⟩,h1⟩,by grind,fun id o2 hk=>?_⟩
  cases id with
  | zero =>
   simp at hk
   subst hk
   refine ⟨_,rfl,rfl,rfl,rfl,fun hm=>?_⟩
   have:=h.1.mu
   grind
  | succ k=>simp_all
 | [],some o::l',h=>h.elim
 | [],none::l',h=>h.elim
 | none::l,some o::l',h=>h.elim
 | some o::l,[],h=>h.elim
 | none::l,[],h=>h.elim
theorem gU.lower {K:Ctx} {β:bo} {a:Act} {w:World} {ns:List Nat} {vs:List AV} {obs1 obs:List (Option Ob)} (hl:obs1.length=obs.length)
  (h:∀ id o,obs.getD id none=some o→∃ o1,obs1.getD id none=some o1∧o1.es=o.es∧o1.n=o.n∧o1.f=o.f∧(o.mu=true→o1.mu=true)) (hs:gU K β (aY ns vs obs1) a w):∃ β',gU K β' (aY ns vs obs) a w:=by
 let ids:=(List.range obs.length).filter fun k=>match obs.getD k none with|some o => !o.mu|none=>false
 have hk:dF β w (fT ids β) w:=jU ids
 refine ⟨fT ids β,fun n=>(hs.slot n).fS hk,hs.size,hs.defers,fun id o ho=>?_,mq hs.inj,fun id hid=>iB (hs.fresh id (by have hid:obs.length≤id:=hid;show obs1.length≤id;omega)),fun id b n mu hb=>?_,fun id o hid=>?_,hs.bF,hs.hF,hs.kept,hs.hB,fun g m f fF=>(hs.iW g m f fF).fS hk⟩
 ·have ho':obs.getD id none=some o:=ho
  obtain ⟨o1,h1,e1,e2,e3,e4⟩:=h id o ho'
  have hmem:bZ ids id = !o.mu:=by
   have hlt:id<obs.length:=by grind
   rw [Bool.eq_iff_iff,e8]
   grind
  rcases hs.heap id o1 h1 with ⟨b,g1,cs,el,k2,k3,k4⟩|⟨g1,g2⟩
  ·refine .inl ⟨b,?_,cs,el,k2,by grind,fun i j hi hj=>?_⟩
   ·rw [iT g1,hmem,← e2]
    grind
   ·rw [← e2] at hi
    rw [← e1] at hj ⊢
    obtain ⟨vv,j1,j2,j3⟩:=k4 i j hi hj
    exact ⟨vv,j1,by rw [← e3];exact j2.fS hk,j3⟩
  ·exact .inr ⟨by grind [fT],by omega⟩
 ·obtain ⟨mu',g1,_⟩:=dm hb
  exact hs.live id b n mu' g1
 ·obtain ⟨o',g1,g2⟩:=hs.zq id o hid
  obtain ⟨o2,g3,g4⟩:=hk.ids id o' g1
  grind [Own.kJ]
theorem ql.le {ng:Nat} {s:dH} {ns π:List Nat} {bB vs:List AV} {os obs:List (Option Ob)} (h:ql ng s ns π bB os) (hv:cM os bB vs) (ho:lU os os obs):Le ng s (aY ns vs obs):=by
 obtain ⟨obs1,h1,h2,h3⟩:=ho.spec
 intro K β a w hng hs
 obtain ⟨β1,hs1⟩:=h.le0 hv h1 K β a w hng hs
 exact hs1.lower h2 h3
inductive Sk : Type 1 where
  | no
  | tt (t : Sk)
  | ff (t : Sk)
  | br (b : Bool) (t e : Sk)
  | bf (p : Prop) (t : Sk)
  | sc (g : Bool) (f : FuncId) (args : List AV) (r : AV) (t : Sk)
  | dc (g : Bool) (f : FuncId) (args : List AV) (r : AV) (t : Sk)
  | gc (f : FuncId) (obs : List Ob) (args : List AV) (r : AV) (obs' : List (Option Ob)) (t : Sk)
  | loop (ι : Type) (S : ι → dH) (m : ι → Nat) (i0 : ι) (ns π : List Nat) (bB : List AV) (os : List (Option Ob)) (t : ι → Sk)
  | again (p : dH → Prop) (ns π : List Nat) (bB : List AV) (os : List (Option Ob))
  | out (x : AV) (os : List (Option Ob)) (r : AV) (obs : List (Option Ob))
  | Bf (nt : Nat) (c : Code) (ns π : List Nat) (bB : List AV) (os : List (Option Ob)) (s' : dH) (t : Sk)
structure P1 : Type 1 where
  ι : Type
  ns : List Nat
  vs : ι → List AV
  obs : ι → List (Option Ob)
  m : ι → Nat
  i0 : ι
def be (ng:Nat) {ι:Type} (S:ι→dH) (m:ι→Nat) (i:ι):dH→Prop:=fun s'=>∃ i',Le ng s' (S i')∧m i'<m i
def di (ng:Nat):Tree→Sk→Sk
 | _,.no=>.no
 | .br b t _,.tt k=>match b with|true=>.tt (di ng t k)|false=>.no
 | .br b _ e,.ff k=>match b with|true=>.no|false=>.ff (di ng e k)
 | .br b t e,.br _ k k'=>.br b (di ng t k) (di ng e k')
 | .bf p t,.bf _ k=>.bf p (di ng t k)
 | .DD g f args kk,.sc _ _ _ r k=>bif sc 9 r then .sc g f args r (di ng (kk r) k) else .no
 | .BS g f args kk,.dc _ _ _ r k=>.dc g f args r (di ng (kk r) k)
 | .Fa f n obs args kk,.gc _ _ _ r obs' k=>bif Nat.ble n obs'.length&&Nat.ble obs'.length (n+8) then .gc f obs args r obs' (di ng (kk r obs') k) else .no
 | .loop _ s kk,.loop ι S m i0 ns π _ _ t=>bif o6 ng s.c π then .loop ι S m i0 ns π (o8 s ns π) (Ae s π) (fun i=>di ng (kk (S i) (be ng S m i)) (t i)) else .no
 | .again s p,.again _ ns π _ _=>bif o6 ng s.c π then .again p ns π (o8 s ns π) (Ae s π) else .no
 | .Bf n nt c s kk,.Bf _ _ ns π _ _ s' t=>bif Nat.beq n ng&&o6 ng s.c π then .Bf nt c ns π (o8 s ns π) (Ae s π) s' (di ng (kk s') t) else .no
 | .out v r obs,.out .. => match v with|some (x,os)=>.out x os r obs|none=>.no
 | _,_=>.no
def Sk.ok (P:Program) (gl:dE) (ng:Nat):Sk→Prop
 | .no=>False
 | .tt t=>t.ok P gl ng
 | .ff t=>t.ok P gl ng
 | .br b t e=>(b=true→t.ok P gl ng)∧(b=false→e.ok P gl ng)
 | .bf p t=>p∧t.ok P gl ng
 | .sc g f args r t=>(g=true→Pure P gl f args r)∧t.ok P gl ng
 | .dc g f args r t=>(g=true→Pure P gl f args r)∧t.ok P gl ng
 | .gc f obs args r obs' t=>bC P gl f obs args r obs'∧t.ok P gl ng
 | .loop ι S _ i0 ns π bB os t=>(∀ s,ql ng s ns π bB os→Le ng s (S i0))∧∀ i:ι,(t i).ok P gl ng
 | .again p ns π bB os=>∀ s,ql ng s ns π bB os→p s
 | .out x os r obs=>aw os x r∧eJ os os obs
 | .Bf nt c ns π bB os s' t=>(∀ s,ql ng s ns π bB os→Opq P gl ng nt c s s')∧t.ok P gl ng
theorem p9 {c:Bool} {x y:Sk} (h:(bif c then x else .no)=y) (hy:y≠.no):c=true∧x=y:=by grind
theorem qL {P:Program} {gl:dE} {ng:Nat} (k:Sk):∀ T,di ng T k=k→k.ok P gl ng→T.wp P gl (Le ng):=by
 induction k with
 | no=>intro T _ h;exact h.elim
 | tt t ih =>
  intro T hu h
  cases T<;>simp only [di,reduceCtorEq] at hu
  rename_i b t1 e1
  cases b<;>simp only [reduceCtorEq,Sk.tt.injEq] at hu
  exact ⟨fun _=>ih _ hu h,fun h=>by cases h⟩
 | ff t ih =>
  intro T hu h
  cases T<;>simp only [di,reduceCtorEq] at hu
  rename_i b t1 e1
  cases b<;>simp only [reduceCtorEq,Sk.ff.injEq] at hu
  exact ⟨fun h=>(by cases h),fun _=>ih _ hu h⟩
 | br b t e iht ihe =>
  intro T hu h
  cases T<;>simp only [di,reduceCtorEq,Sk.br.injEq] at hu
  obtain ⟨rfl,h1,h2⟩:=hu
  exact ⟨fun hb=>iht _ h1 (h.1 hb),fun hb=>ihe _ h2 (h.2 hb)⟩
 | bf p t ih =>
  intro T hu h
  cases T<;>simp only [di,reduceCtorEq,Sk.bf.injEq] at hu
  obtain ⟨rfl,h1⟩:=hu
  exact ⟨h.1,ih _ h1 h.2⟩
 | sc g f args r t ih =>
  intro T hu h
  cases T<;>simp only [di,reduceCtorEq] at hu
  obtain ⟨hs,hu⟩:=p9 hu (by simp)
  simp only [Sk.sc.injEq,true_and] at hu
  obtain ⟨rfl,rfl,rfl,h1⟩:=hu
  exact ⟨r,h.1,hs,ih _ h1 h.2⟩
 | dc g f args r t ih =>
  intro T hu h
  cases T<;>simp only [di,reduceCtorEq,Sk.dc.injEq,true_and] at hu
  obtain ⟨rfl,rfl,rfl,h1⟩:=hu
  exact ⟨r,h.1,ih _ h1 h.2⟩
 | gc f obs args r obs' t ih =>
  intro T hu h
  cases T<;>simp only [di,reduceCtorEq] at hu
  obtain ⟨hs,hu⟩:=p9 hu (by simp)
  simp only [Sk.gc.injEq,true_and] at hu
  obtain ⟨rfl,rfl,rfl,h1⟩:=hu
  exact ⟨r,obs',h.1,hs,ih _ h1 h.2⟩
 | loop ι S m i0 ns π bB os t ih =>
  intro T hu h
  cases T<;>simp only [di,reduceCtorEq] at hu
  obtain ⟨hs,hu⟩:=p9 hu (by simp)
  simp only [Sk.loop.injEq,true_and,heq_eq_eq] at hu
  obtain ⟨rfl,rfl,h1⟩:=hu
  exact ⟨ι,S,m,i0,h.1 _ ⟨hs,rfl,rfl⟩,fun i=>ih i _ (congrFun h1 i) (h.2 i)⟩
 | again p ns π bB os =>
  intro T hu h
  cases T<;>simp only [di,reduceCtorEq] at hu
  obtain ⟨hs,hu⟩:=p9 hu (by simp)
  simp only [Sk.again.injEq,true_and] at hu
  obtain ⟨rfl,rfl,rfl⟩:=hu
  exact h _ ⟨hs,rfl,rfl⟩
 | Bf nt c ns π bB os s' t ih =>
  intro T hu h
  cases T<;>simp only [di,reduceCtorEq] at hu
  obtain ⟨hs,hu⟩:=p9 hu (by simp)
  rw [Bool.and_eq_true] at hs
  have hn:=Nat.eq_of_beq_eq_true hs.1
  simp only [Sk.Bf.injEq,true_and] at hu
  obtain ⟨rfl,rfl,rfl,rfl,h1⟩:=hu
  subst hn
  exact ⟨s',h.1 _ ⟨hs.2,rfl,rfl⟩,ih _ h1 h.2⟩
 | out x os r obs =>
  intro T hu h
  cases T<;>simp only [di,reduceCtorEq] at hu
  rename_i v r1 obs1
  cases v with
  | none=>grind
  | some xo =>
   obtain ⟨x1,os1⟩:=xo
   simp only [Sk.out.injEq] at hu
   obtain ⟨rfl,rfl,rfl,rfl⟩:=hu
   exact ⟨x1,os1,rfl,h.1,h.2⟩
def walk (P:Program) (gl:dE) (own:FuncId→Option (List Bool)) (hand:Bool) (fn:Func) (obs:List Ob) (args:List AV) (r:AV) (obs':List (Option Ob)):Tree:=match fn.body with
 | some code=>run ⟨P,gl,fn.ntmps,own,obs.length⟩ code (JY P fn obs.length hand args r obs') (entry args obs)
 | none=>.bad "no body"
section
variable {P : Program} {gl : dE} {own : FuncId → Option (List Bool)}
theorem bO {hand:Bool} {f:FuncId} {fn:Func} {obs:List Ob} {args:List AV} {r:AV} {obs':List (Option Ob)} (hf:P.funcs[f]? = some fn) (hname:(fn.name == "runtime.NumGoroutine")=false) (hm:P.follows .mixedOrders=true)
  (hn:Nat.ble args.length fn.ntmps=true) (sk:Sk) (hu:di obs.length (walk P gl own hand fn obs args r obs') sk=sk) (h:sk.ok P gl obs.length):bC P gl f obs args r obs':=by
 have hwp:=qL sk _ hu h
 unfold walk at hwp
 cases hb:fn.body with
 | none=>rw [hb] at hwp;exact hwp.elim
 | some code=>grind [Ci]
theorem ar {f:FuncId} {fn:Func} {args:List AV} {r:AV} (hf:P.funcs[f]? = some fn) (hname:(fn.name == "runtime.NumGoroutine")=false) (hm:P.follows .mixedOrders=true)
  (hn:Nat.ble args.length fn.ntmps=true) (sk:Sk) (hu:di 0 (walk P gl own false fn [] args r []) sk=sk) (h:sk.ok P gl 0):Pure P gl f args r :=
 bO hf hname hm hn sk hu h
variable {ng : Nat}
theorem eT {t:Sk} (h:t.ok P gl ng):(Sk.tt t).ok P gl ng:=h
theorem b9 {t:Sk} (h:t.ok P gl ng):(Sk.ff t).ok P gl ng:=h
theorem aL {b:Bool} {t e:Sk} (h1:b=true→t.ok P gl ng) (h2:b=false→e.ok P gl ng):(Sk.br b t e).ok P gl ng:=⟨h1,h2⟩
theorem aD {p:Prop} {t:Sk} (h1:p) (h2:t.ok P gl ng):(Sk.bf p t).ok P gl ng:=⟨h1,h2⟩
theorem aM {f:FuncId} {args:List AV} {r:AV} {t:Sk} (h1:Pure P gl f args r) (h2:t.ok P gl ng):(Sk.sc true f args r t).ok P gl ng:=⟨fun _=>h1,h2⟩
theorem aV {g:Bool} {f:FuncId} {args:List AV} {r:AV} {t:Sk} (h1:g=true→Pure P gl f args r) (h2:t.ok P gl ng):(Sk.sc g f args r t).ok P gl ng:=⟨h1,h2⟩
theorem bM {f:FuncId} {args:List AV} {r:AV} {t:Sk} (h1:Pure P gl f args r) (h2:t.ok P gl ng):(Sk.dc true f args r t).ok P gl ng:=⟨fun _=>h1,h2⟩
theorem fU {f:FuncId} {obs:List Ob} {args:List AV} {r:AV} {obs':List (Option Ob)} {t:Sk} (h1:bC P gl f obs args r obs') (h2:t.ok P gl ng):(Sk.gc f obs args r obs' t).ok P gl ng:=⟨h1,h2⟩
theorem aU {ι:Type} {S:ι→dH} {m:ι→Nat} {i0:ι} {ns π:List Nat} {bB:List AV} {os:List (Option Ob)} {t:ι→Sk} (h1:∀ s,ql ng s ns π bB os→Le ng s (S i0)) (h2:∀ i,(t i).ok P gl ng) :
  (Sk.loop ι S m i0 ns π bB os t).ok P gl ng:=⟨h1,h2⟩
theorem aN {ι:Type} {S:ι→dH} {m:ι→Nat} {i:ι} {ns π:List Nat} {bB:List AV} {os:List (Option Ob)} (i':ι) (h1:∀ s,ql ng s ns π bB os→Le ng s (S i')) (h2:m i'<m i) :
  (Sk.again (be ng S m i) ns π bB os).ok P gl ng:=fun s hs=>⟨i',h1 s hs,h2⟩
theorem Nr {nt:Nat} {c:Code} {ns π:List Nat} {bB:List AV} {os:List (Option Ob)} {s1 s':dH} {t:Sk} (h0:∀ s,ql ng s ns π bB os→Le ng s s1) (h1:Opq P gl ng nt c s1 s') (h2:t.ok P gl ng) :
  (Sk.Bf nt c ns π bB os s' t).ok P gl ng:=⟨fun s hs K β a w hP fF pa hng hq hm h=>let ⟨_,h'⟩:=h0 s hs K β a w hng h;h1 K _ a w hP fF pa hng hq hm h',h2⟩
theorem aq {x r:AV} (h:aw [] x r):(Sk.out x [] r []).ok P gl ng:=⟨h,trivial⟩
theorem cP {x r:AV} {os obs:List (Option Ob)} (h:aw os x r) (h2:eJ os os obs):(Sk.out x os r obs).ok P gl ng:=⟨h,h2⟩
end
end Go.Am

namespace Go.Am
open Go.IntKind (wrap)
open Int (toNat)
open Go.RowKit
theorem aw.bw {os:List (Option Ob)} (a:AV):aw os a .bw:=fun _ _ _ _ _=>.bw
theorem aw.nn {os:List (Option Ob)} {a b:AV} (h:aw os a b):aw os (.nn a) b:=fun _ _ _ hh hr=>by
 cases hr with|nn h'=>exact h _ _ _ hh h'
theorem aw.aG {os:List (Option Ob)} {es n:Nat} {f g:Nat→Nat→AV} (h:∀ i j,i<n→j<es→f i j=g i j):aw os (.aG es n f) (.aG es n g):=fun _ _ _ _ hr=>by
 cases hr with
 | aG bB he hcap hb hc ho hr hcl=>exact .aG bB he hcap hb hc ho (fun i j hi hj=>by grind) (fun i j hi hj=>by grind)
 | gT h'=>exact .gT h'
theorem aw.ia {os:List (Option Ob)} {es n n':Nat} {f g:Nat→Nat→AV} (hn:n=n') (h:∀ i j,i<n→j<es→f i j=g i j):aw os (.aG es n f) (.aG es n' g):=by grind [aw.aG]
theorem aH.refl {os:List (Option Ob)} (o:Ob):aH os o o:=⟨by rw [C4],rfl,rfl,fun _ _ _ _=>aw.refl _⟩
theorem eJ.refl {os:List (Option Ob)}:∀ l:List (Option Ob),eJ os l l
 | []=>trivial
 | none::l=>eJ.refl l
 | some o::l=>⟨.refl o,eJ.refl l⟩
theorem cM.refl {os:List (Option Ob)}:∀ l:List AV,cM os l l
 | []=>trivial
 | a::l=>⟨aw.refl a,cM.refl l⟩
theorem aw.aO {os:List (Option Ob)} {l l':List AV} (h:cM os l l') (j:Nat):aw os (aO l j) (aO l' j):=by
 obtain ⟨h1,h2⟩:=h.spec
 grind [Am.aO,List.getElem?_eq_getElem,List.getElem?_eq_none,aw.refl]
theorem aH.row {os:List (Option Ob)} {es:Nat} {mu:Bool} {l l':List AV} (h:cM os l l'):aH os ⟨es,1,mu,.ba [l]⟩ ⟨es,1,mu,.ba [l']⟩:=⟨rfl,rfl,rfl,fun i j hi _=>by
 have hi:i<1:=hi
 obtain rfl:i=0:=by omega
 exact aw.aO h j⟩
theorem aH.bw {os:List (Option Ob)} {es n:Nat} {mu:Bool} {f:bz}:aH os ⟨es,n,mu,f⟩ ⟨es,n,mu,.fn fun _ _=>.bw⟩:=⟨rfl,rfl,rfl,fun _ _ _ _=>aw.bw _⟩
theorem aH.zero {os:List (Option Ob)} {es:Nat} {mu:Bool} {f g:bz} (ht:tyc f g=true:=by rfl):aH os ⟨es,0,mu,f⟩ ⟨es,0,mu,g⟩:=⟨congrArg (Prod.mk es) ht,rfl,rfl,fun i _ hi _=>by grind⟩
theorem dw {es j:Nat} {g:Nat→AV} (hj:j<es):Am.aO ((List.range es).map g) j=g j:=by grind [Am.aO,List.getElem?_range]
theorem aH.len {os:List (Option Ob)} {es n n':Nat} {mu:Bool} {f:bz} (h:n=n'):aH os ⟨es,n,mu,f⟩ ⟨es,n',mu,f⟩:=by grind [refl]
theorem aH.push {os:List (Option Ob)} {es x x':Nat} {mu:Bool} {k:IntKind} {f:Nat→Nat→Int} {l:List AV} (h:l=(List.range es).map (fun j=>.int k (f x j))) (hx:x'=x+1) :
  aH os ⟨es,x+1,mu,.fn fun i j=>.int k (bif Nat.blt i x then f i j else aE (Am.aO l j))⟩ ⟨es,x',mu,.fn fun i j=>.int k (f i j)⟩:=by
 subst hx
 refine ⟨rfl,rfl,rfl,fun i j hi hj=>aw.of_eq ?_⟩
 have hi:i<x+1:=hi
 have hj:j<es:=hj
 show AV.int k _=AV.int k _
 cases hb:Nat.blt i x with
 | true=>rfl
 | false =>
  have:i=x:=by grind [Nat.blt_eq]
  subst this
  rw [h,dw hj]
  rfl
theorem aH.cat {os:List (Option Ob)} {es n m n':Nat} {mu:Bool} {f g h:bz} (hn:n'=n+m) (h1:∀ i j,i<n→j<es→aw os (f i j) (h i j)) (h2:∀ i j,i<m→j<es→aw os (g i j) (h (n+i) j)) (ht:tyc (.cat n f g) h=true:=by rfl) :
  aH os ⟨es,n+m,mu,.cat n f g⟩ ⟨es,n',mu,h⟩:=by
 subst hn
 refine ⟨congrArg (Prod.mk es) ht,rfl,rfl,fun i j hi hj=>?_⟩
 have hi:i<n+m:=hi
 show aw os (cG (Nat.blt i n) (f.at i j) (g.at (i - n) j)) (h i j)
 grind [Nat.blt,n,gi,Nat.blt_eq,fP,Nat.le_of_not_lt]
theorem aH.put {os:List (Option Ob)} {es n k:Nat} {mu:Bool} {x:List AV} {f h:bz} (h1:∀ j,k<n→j<es→aw os (Am.aO x j) (h k j)) (h2:∀ i j,i<n→i≠k→j<es→aw os (f i j) (h i j)) (ht:tyc (.put k x f) h=true:=by rfl) :
  aH os ⟨es,n,mu,.put k x f⟩ ⟨es,n,mu,h⟩:=by
 refine ⟨congrArg (Prod.mk es) ht,rfl,rfl,fun i j hi hj=>?_⟩
 have hi:i<n:=hi
 show aw os (cG (Nat.beq i k) (Am.aO x j) (f.at i j)) (h i j)
 grind [Nat.beq,gi,Nat.eq_of_beq_eq_true,fP,Nat.beq_refl]
theorem aH.pq {os:List (Option Ob)} {es n n':Nat} {mu:Bool} {c c':Nat→List AV} {x:List AV} (hn:n'=n+1) (hc:∀ i,i<n→cM os (c i) (c' i)) (hx:cM os x (c' n)) :
  aH os ⟨es,n+1,mu,.cat n (.row c) (.ba [x])⟩ ⟨es,n',mu,.row c'⟩ :=
 aH.cat hn (fun i j hi _=>aw.aO (hc i hi) j) (fun i j hi _=>by
  obtain rfl:i=0:=by omega
  exact aw.aO hx j)
theorem aH.cm {os:List (Option Ob)} {es n n':Nat} {mu:Bool} {c:Nat→List AV} (hn:n'=n+1):aH os ⟨es,n+1,mu,.cat n (.row c) (.ba [c n])⟩ ⟨es,n',mu,.row c⟩ :=
 aH.pq hn (fun _ _=>cM.refl _) (cM.refl _)
def vT (k:IntKind) (l:List Int):Nat→Nat→AV:=fun i _=>.int k (l.getD i 0)
abbrev il (k:IntKind) (l:List Int):AV:=.aG 1 l.length (vT k l)
abbrev nX (k:IntKind) (l:List Int):Option Ob:=some ⟨1,l.length,true,.fn (vT k l)⟩
theorem aH.Oh {os:List (Option Ob)} {mu:Bool} {k:IntKind} {l l':List Int} {v:Int} (h:l'=l++[v]) :
  aH os ⟨1,l.length+1,mu,.fn fun i j=>.int k (bif Nat.blt i l.length then l.getD i 0 else aE (Am.aO [.int k v] j))⟩ ⟨1,l'.length,mu,.fn (vT k l')⟩:=by
 subst h
 refine ⟨rfl,by simp,rfl,fun i j hi hj=>aw.of_eq ?_⟩
 have hi:i<l.length+1:=hi
 have hj:j<1:=hj
 obtain rfl:j=0:=by omega
 show AV.int k _=AV.int k _
 grind [Nat.blt,Nat.blt_eq,List.getElem?_append_left,aO,aE]
theorem aw.bc {os:List (Option Ob)} {es:Nat} {f:Nat→Nat→AV}:aw os .bc (.aG es 0 f):=fun _ _ _ _ hr=>by
 cases hr;exact .gT (fun _=>rfl)
theorem aw.PJ {os:List (Option Ob)} {k:IntKind} {l:List Int} (h:l=[]):aw os .bc (il k l):=by grind [aw.bc]
theorem aw.ilL {os:List (Option Ob)} {k:IntKind} {l l':List Int} (h:l=l'):aw os (.aG 1 l.length fun i _=>.int k (l.getD i 0)) (il k l'):=by subst h;exact aw.refl _
theorem aw.two {os:List (Option Ob)} {es:Nat} {x y:List AV} {g:Nat→List AV} (h0:x=g 0) (h1:y=g 1):aw os (.aG es 2 fun r k=>Am.aO (List.getD [x,y] r []) k) (.aG es 2 fun i j=>Am.aO (g i) j):=by grind [aw.aG]
theorem aw.agg {os:List (Option Ob)} {l l':List AV} (h:cM os l l'):aw os (.agg l) (.agg l'):=fun _ _ _ hh hr=>by
 obtain ⟨h1,h2⟩:=h.spec
 obtain ⟨vs,rfl,hl,hr⟩:=dv hr
 refine .agg (by omega) fun j u x hu hx=>?_
 have hj:j<l.length:=by grind
 exact h2 j l[j] u (by simp) hu _ _ _ hh (hr j _ _ (by simp) hx)
theorem aw.aT {os:List (Option Ob)} {l l':List AV} (h:cM os l l'):aw os (.aT l) (.aT l'):=fun _ _ _ hh hr=>by
 obtain ⟨h1,h2⟩:=h.spec
 obtain ⟨vs,rfl,hl,hr⟩:=om hr
 refine .aT (by omega) fun j u x hu hx=>?_
 have hj:j<l.length:=by grind
 exact h2 j l[j] u (by simp) hu _ _ _ hh (hr j _ _ (by simp) hx)
section
variable {P : Program} {gl : dE} {f : FuncId}
theorem bC.dW {obs:List Ob} {r:AV} {obs':List (Option Ob)} (pre post:List AV) (es n:Nat) (g:Nat→Nat→AV) (h1:n=0→bC P gl f obs (pre++.bc::post) r obs')
  (h2:bC P gl f obs (pre++.nn (.aG es n g)::post) r obs'):bC P gl f obs (pre++.aG es n g::post) r obs':=by
 refine ⟨h2.1,fun β w vs hF hgiv fF hargs=>?_⟩
 have hx:∀ (a b:AV),(∀ v,vs[pre.length]? = some v→Rel β w b v)→eR β w (pre++a::post) vs→eR β w (pre++b::post) vs:=fun a b hb hr=>by
  refine ⟨by have:=hr.len;grind,fun j u x hu hxx=>?_⟩
  rcases Nat.lt_trichotomy j pre.length with h|h|h
  ·refine hr.rel j u x ?_ hxx
   grind
  ·grind
  ·refine hr.rel j u x ?_ hxx
   grind
 obtain ⟨v,hv,hr⟩:=hargs.at (j:=pre.length) (u:=.aG es n g) (by simp)
 obtain ⟨a,cap,rfl,hcap,hnil,_⟩:=gX hr
 cases a with
 | none =>
  have hc:=hnil rfl
  subst hc
  have hn:n=0:=by omega
  subst hn
  exact (h1 rfl).2 β w vs hF hgiv fF (hx _ _ (fun v' hv'=>by rw [hv] at hv';cases hv';exact .bc) hargs)
 | some ad=>exact h2.2 β w vs hF hgiv fF (hx _ _ (fun v' hv'=>by rw [hv] at hv';cases hv';exact .nn hr) hargs)
theorem bC.nil {obs:List Ob} {args:List AV} {obs':List (Option Ob)} (h:bC P gl f obs args .bc obs') (es:Nat) (g:bz) :
  bC P gl f obs args (.aZ obs'.length es 0 0) (obs'++[some ⟨es,0,true,g⟩]):=by
 refine ⟨h.1,fun β w vs hF hgiv fF hargs=>(h.2 β w vs hF hgiv fF hargs).mono fun e w' hh=>?_⟩
 obtain ⟨v,β',he,hk,hA,hr⟩:=hh
 have hn:=hA.none obs'.length (Nat.le_refl _)
 let β2:bo:=xn β' [(obs'.length,.empty)]
 have at0:β2.m obs'.length=some .empty:=im (by rw [cj,if_pos rfl])
 have old:∀ k,k≠obs'.length→β2.m k=β'.m k:=fun k hk=>dZ (by simp_all [cj]<;>omega)
 have lv:∀ k b n mu,β2.m k=some (.bx b n mu)→β'.m k=some (.bx b n mu):=fun k b n mu hb=>by grind
 have kk:dF β' w' β2 w':=⟨fun id o ho=>⟨o,by grind,o.fh⟩,fun _ _ _=>rfl,fun b _ hf=>⟨hf.1,fun id n h=>hf.2 id n (lv _ _ _ _ h)⟩,fun _ _ _ h=>h⟩
 cases hr
 refine ⟨_,β2,he,hk,⟨hA.F,fun k ob hkk=>?_,fun k hkk=>?_,fun i j b n n' mu mu' h1 h2=>hA.inj i j b n n' mu mu' (lv _ _ _ _ h1) (lv _ _ _ _ h2),fun k b n mu hb=>hA.live k b n mu (lv _ _ _ _ hb),fun k o ho=>?_⟩,.jN (by grind)⟩
 ·by_cases e:k=obs'.length
  ·subst e
   simp at hkk
   subst hkk
   exact .inr ⟨at0,rfl⟩
  ·have hkk':obs'[k]? = some (some ob):=by grind
   rcases hA.holds k ob hkk' with ⟨b,g1,g2⟩|⟨g1,g2⟩
   ·exact .inl ⟨b,by grind,g2.fS kk rfl⟩
   ·exact .inr ⟨by grind,g2⟩
 ·simp at hkk
  rw [old k (by omega)]
  exact hA.none k (by omega)
 ·obtain ⟨o',g1,g2⟩:=hA.later k o ho
  grind
theorem bC.tO {obs:List Ob} {args:List AV} {r r':AV} {obs' obs2:List (Option Ob)} (h:bC P gl f obs args r obs') (hr:aw obs' r r') (ho:eJ obs' obs' obs2):bC P gl f obs args r' obs2:=by
 refine ⟨h.1,fun β w vs hF hgiv fF hargs=>(h.2 β w vs hF hgiv fF hargs).mono fun e w' hh=>?_⟩
 obtain ⟨v,β',he,hk,hA,hv⟩:=hh
 obtain ⟨hl,hs⟩:=ho.spec
 have hHas:Has obs' β':=fun k o hk=>by rcases hA.holds k o hk with ⟨b,g,_⟩|⟨g,_⟩<;>(grind)
 refine ⟨v,β',he,hk,⟨hA.F,fun k ob hkk=>?_,fun k hkk=>hA.none k (by omega),hA.inj,hA.live,hA.later⟩,hr _ _ _ hHas hv⟩
 obtain ⟨o1,g1,g2⟩:=hs k ob hkk
 have e1:=g2.es;have e2:=g2.n;have e3:=g2.mu;have e4:=g2.f
 rcases hA.holds k o1 g1 with ⟨b,k1,cs,el,k2,k3,k4⟩|⟨k1,k2⟩
 ·refine .inl ⟨b,by grind,cs,el,k2,k3.tO g2,fun i j hi hj=>?_⟩
  rw [← e2] at hi
  rw [← e1] at hj ⊢
  obtain ⟨vv,j1,j2,j3⟩:=k4 i j hi hj
  exact ⟨vv,j1,e4 i j hi hj _ _ _ hHas j2,j3⟩
 ·exact .inr ⟨k1,by omega⟩
theorem bC.via {obs:List Ob} {args args':List AV} {r:AV} {obs':List (Option Ob)} (h:bC P gl f obs args' r obs') (he:cM (obs.map some) args args'):bC P gl f obs args r obs':=by
 refine ⟨h.1,fun β w vs hF hgiv fF hargs=>h.2 β w vs hF hgiv fF ?_⟩
 obtain ⟨h1,h2⟩:=he.spec
 have hHas:Has (obs.map some) β:=fun k o hk=>by
  rw [List.getElem?_map] at hk
  cases ho:obs[k]? with
  | none=>grind
  | some ob=>rcases hgiv.holds k ob ho with ⟨b,g,_⟩|⟨g,_⟩<;>(grind)
 refine ⟨by rw [← h1];exact hargs.len,fun j u x hu hx=>?_⟩
 have hj:j<args.length:=by grind
 exact h2 j args[j] u (by simp) hu _ _ _ hHas (hargs.rel j _ _ (by simp) hx)
theorem Pure.via {args args':List AV} {r:AV} (h:Pure P gl f args' r) (he:cM [] args args'):Pure P gl f args r:=bC.via h he
theorem aw.rows {os:List (Option Ob)} {es n:Nat} {f g:Nat→Nat→AV} (h:∀ i,i<n→(List.range es).map (f i)=(List.range es).map (g i)):aw os (.aG es n f) (.aG es n g) :=
 aw.aG fun i j hi hj=>by simp_all
theorem Pure.tO {args:List AV} {r r':AV} (h:Pure P gl f args r) (hr:aw [] r r'):Pure P gl f args r':=bC.tO h hr trivial
end
end Go.Am

namespace Go.Sp
open Go.IntKind (wrap)
open Int (toNat)
open Go Go.Am
theorem wI {n:Int} (h : -9223372036854775808≤n) (h':n≤9223372036854775807):IntKind.wrap .i64 n=n:=by simp_all [IntKind.wrap,IntKind.bits,IntKind.signed,Bool.true_and,decide_eq_true_eq,ge_iff_le]<;>omega
def bT (d l i:Int):Bool:=decide (0≤d∧d≤5∧0≤l∧l≤d∧0≤i∧i<2^l.toNat)
def db (d l i:Int):Int:=if bT d l i then i*2^(d - l).toNat else 0
def dg (d l i:Int):Int:=if bT d l i then (i+1)*2^(d - l).toNat else 0
def gV (d l i:Int):Int:=if d<0∨5<d then 1 else if bT d l i then 0 else 2
theorem DZ (d l i:Int):(decide (d≥0)&&decide (d≤5)&&decide (l≥0)&&decide (l≤d)&&decide (i≥0)&&decide (i<wrap .i64 (1*2^min (toNat l) 64)))=bT d l i:=by
 by_cases hl:0≤l∧l≤5
 ·have:wrap .i64 (1*2^min (toNat l) 64)=2^l.toNat:=by
   rcases (by omega:l=0∨l=1∨l=2∨l=3∨l=4∨l=5) with rfl|rfl|rfl|rfl|rfl|rfl<;>decide
  grind [bT,Bool.and_assoc]
 ·rw [Bool.eq_iff_iff]
  grind [bT]
theorem iH {d l i:Int} (h:bT d l i=true):0≤d∧d≤5∧0≤l∧l≤d∧0≤i∧i<2^l.toNat:=by grind [bT]
theorem p2 {k:Int} (h0:0≤k) (h1:k≤5):wrap .i64 (1*2^min (toNat k) 64)=2^k.toNat∧min (toNat k) 64=k.toNat∧1≤(2:Int)^k.toNat∧(2:Int)^k.toNat≤32:=by
 rcases (by omega:k=0∨k=1∨k=2∨k=3∨k=4∨k=5) with rfl|rfl|rfl|rfl|rfl|rfl<;>decide
theorem KA {d l i:Int} (h:(decide (d<0)||decide (d>5))=true):db d l i=0∧dg d l i=0∧gV d l i=1:=by grind [bT,iH,db,dg,gV]
theorem Md {d l i:Int} (h:(decide (d<0)||decide (d>5))=false) (hn:(!bT d l i)=true):db d l i=0∧dg d l i=0∧gV d l i=2:=by grind [bT,db,dg,gV]
theorem bnd {i a b:Int} (h0:0≤i) (h1:i<a) (h2:a≤32) (h3:1≤b) (h4:b≤32):0≤i*b∧i*b≤1024∧0≤(i+1)*b∧(i+1)*b≤1056:=by
 have e1:i*b≤32*32:=Int.mul_le_mul (by omega) h4 (by omega) (by omega)
 have e2:=Int.mul_nonneg h0 (show 0≤b by omega)
 grind
theorem xe {d l i:Int} (hn:(!bT d l i)=false):IntKind.wrap .i64 (i*IntKind.wrap .i64 (1*2^min (toNat (IntKind.wrap .i64 (d - l))) 64))=db d l i ∧
  IntKind.wrap .i64 (IntKind.wrap .i64 (i+1)*IntKind.wrap .i64 (1*2^min (toNat (IntKind.wrap .i64 (d - l))) 64))=dg d l i∧gV d l i=0∧0≤IntKind.wrap .i64 (d - l):=by
 have hn:bT d l i=true:=by grind
 obtain ⟨h1,h2,h3,h4,h5,h6⟩:=iH hn
 have e:IntKind.wrap .i64 (d - l)=d - l:=wI (by omega) (by omega)
 obtain ⟨q1,_,q2,q3⟩:=p2 (k:=d - l) (by omega) (by omega)
 obtain ⟨_,_,r2,r3⟩:=p2 (k:=l) (by omega) (by omega)
 obtain ⟨b1,b2,b3,b4⟩:=bnd h5 h6 r3 q2 q3
 grind [wI,db,dg,gV]
abbrev Sub {α:Type} (p:α→Prop):Type:={x:α // p x}
structure aA where
  ju : Int
  fK : Int
  gq : Int
  depth : Int
  a : Int
  root : Nat → Int
  z : Int
  sa : Int
  sb : Int
  r : Int
  level : Int
  index : Int
  bI : Nat → Int
  time : Int
  number : Int
  nl : Nat
  lf : Nat → Nat → Int
  kg : Int
  np : Nat
  pf : Nat → Nat → Int
abbrev wc (n:Nat) (f:Nat→Nat→Int):AV:=.aG 3 n (fun i j=>.int .i64 (f i j))
abbrev BE (n:Nat) (f:Nat→Nat→Int):AV:=.aG 32 n (fun i j=>.int .u8 (f i j))
def aA.cw (s:aA) (x y:AV):List AV:=[.int .i64 s.ju,.int .i64 s.fK,.int .i64 s.gq,.int .i64 s.depth,.int .i64 s.a,.int .u8 (s.root 0),.int .u8 (s.root 1),.int .u8 (s.root 2),.int .u8 (s.root 3),.int .u8 (s.root 4),.int .u8 (s.root 5),.int .u8 (s.root 6),.int .u8 (s.root 7),.int .u8 (s.root 8),.int .u8 (s.root 9),.int .u8 (s.root 10),.int .u8 (s.root 11),.int .u8 (s.root 12),.int .u8 (s.root 13),.int .u8 (s.root 14),.int .u8 (s.root 15),.int .u8 (s.root 16),.int .u8 (s.root 17),.int .u8 (s.root 18),.int .u8 (s.root 19),.int .u8 (s.root 20),.int .u8 (s.root 21),.int .u8 (s.root 22),.int .u8 (s.root 23),.int .u8 (s.root 24),.int .u8 (s.root 25),.int .u8 (s.root 26),.int .u8 (s.root 27),.int .u8 (s.root 28),.int .u8 (s.root 29),.int .u8 (s.root 30),.int .u8 (s.root 31),.int .i64 s.z,.int .i64 s.sa,.int .i64 s.sb,.int .i64 s.r,.int .i64 s.level,.int .i64 s.index,.int .u8 (s.bI 0),.int .u8 (s.bI 1),.int .u8 (s.bI 2),.int .u8 (s.bI 3),.int .u8 (s.bI 4),.int .u8 (s.bI 5),.int .u8 (s.bI 6),.int .u8 (s.bI 7),.int .u8 (s.bI 8),.int .u8 (s.bI 9),.int .u8 (s.bI 10),.int .u8 (s.bI 11),.int .u8 (s.bI 12),.int .u8 (s.bI 13),.int .u8 (s.bI 14),.int .u8 (s.bI 15),.int .u8 (s.bI 16),.int .u8 (s.bI 17),.int .u8 (s.bI 18),.int .u8 (s.bI 19),.int .u8 (s.bI 20),.int .u8 (s.bI 21),.int .u8 (s.bI 22),.int .u8 (s.bI 23),.int .u8 (s.bI 24),.int .u8 (s.bI 25),.int .u8 (s.bI 26),.int .u8 (s.bI 27),.int .u8 (s.bI 28),.int .u8 (s.bI 29),.int .u8 (s.bI 30),.int .u8 (s.bI 31),.int .i64 s.time,.int .i64 s.number,x,.int .i64 s.kg,y]
def aA.cells (s:aA):List AV:=s.cw (wc s.nl s.lf) (BE s.np s.pf)
def aA.av (s:aA):AV:=.agg s.cells
def dC (s:aA):Bool := !(gV s.depth s.level s.index != 0||(s.nl:Int) != IntKind.wrap .i64 (dg s.depth s.level s.index - db s.depth s.level s.index)||decide (s.time<0)||decide (s.time>1099511627776)||decide (s.number<0)||decide (s.number>1073741824))
def aK (p:Nat→Bool):Nat→Nat→Int
 | 0,_ => -1
 | k+1,i=>if p i then i else aK p k (i+1)
theorem oh {p:Nat→Bool} {n i:Nat} (h:i<n):aK p (n - i) i=if p i then (i:Int) else aK p (n - (i+1)) (i+1):=by
 rw [show n - i=(n - (i+1))+1 by omega];rfl
theorem wJ {p:Nat→Bool} {n i:Nat} (h:n≤i):aK p (n - i) i = -1:=by
 rw [show n - i=0 by omega];rfl
theorem gH {p:Nat→Bool}:∀ k i,(decide (aK p k i≥0))=(List.range k).any (fun q=>p (i+q))
 | 0,i=>rfl
 | k+1,i=>by
  have ih:=gH (p:=p) k (i+1)
  have e:(List.range (k+1)).any (fun q=>p (i+q))=(p i||(List.range k).any (fun q=>p (i+1+q))):=by
   rw [List.range_succ_eq_map,List.any_cons,List.any_map]
   grind
  rw [e,← ih]
  by_cases h:p i=true
  ·simp_all [aK]
  simp_all [aK]
theorem cr {p:Nat→Bool} {A:Int} {n i:Nat} (hx:A=aK p (n - i) i) (h:i<n) (hp:p i=true):(i:Int)=A:=by simp_all [oh]
theorem bS {p:Nat→Bool} {A:Int} {n i:Nat} (hx:A=aK p (n - i) i) (h:i<n) (hp:p i=false):A=aK p (n - (i+1)) (i+1):=by simp_all [oh]
theorem bW {p:Nat→Bool} {A:Int} {n i:Nat} (hx:A=aK p (n - i) i) (h:n≤i) : -1=A:=by grind [wJ]
theorem aJ {os:List (Option Ob)} {i:Nat} (h:i<9223372036854775807):aw os (.int .i64 (IntKind.wrap .i64 (Nat.cast i+1))) (.int .i64 (Nat.cast (i+1))):=aw.of_eq (by grind [wI])
theorem AW (x:Int):0≤IntKind.wrap .u64 x:=by simp_all [IntKind.wrap,IntKind.bits,IntKind.signed,Bool.false_and]<;>omega
def nD (d l i:Int):Bool:=decide (l≥0)&&decide (l≤d)&&decide (i≥0)&&decide (i<wrap .i64 (1*2^min (toNat l) 64))
theorem wa (d l i:Int):(decide (d≥0)&&decide (d≤5)&&nD d l i)=bT d l i:=by
 rw [← DZ];simp [nD,Bool.and_assoc]
def fL (t n:Int):Bool:=decide (t≥0)&&decide (t≤1099511627776)&&decide (n≥0)&&decide (n≤1073741824)
theorem Ha {d l i:Int} (hn:bT d l i=true):IntKind.wrap .i64 (i*IntKind.wrap .i64 (1*2^min (toNat (IntKind.wrap .u64 (IntKind.wrap .i64 (d - l)))) 64))=db d l i ∧
  IntKind.wrap .i64 (IntKind.wrap .i64 (i+1)*IntKind.wrap .i64 (1*2^min (toNat (IntKind.wrap .u64 (IntKind.wrap .i64 (d - l)))) 64))=dg d l i:=by
 obtain ⟨h1,h2,h3,h4,h5,h6⟩:=iH hn
 have e:IntKind.wrap .i64 (d - l)=d - l:=wI (by omega) (by omega)
 have e2:IntKind.wrap .u64 (d - l)=d - l:=by simp_all [IntKind.wrap,IntKind.bits,IntKind.signed,Bool.false_and]<;>omega
 grind [xe]
theorem LO {s:aA} (h:(decide (s.depth<0)||decide (s.depth>5) || !bT s.depth s.level s.index || !fL s.time s.number)=true):dC s=false:=by grind [dC,gV,bT,fL]
theorem yE {s:aA} (h:(decide (s.depth<0)||decide (s.depth>5) || !bT s.depth s.level s.index || !fL s.time s.number)=false) :
  bT s.depth s.level s.index=true∧((s.nl:Int)==IntKind.wrap .i64 (dg s.depth s.level s.index - db s.depth s.level s.index))=dC s:=by
 simp [fL] at h
 obtain ⟨⟨⟨h1,h2⟩,h3⟩,h4⟩:=h
 refine ⟨h3,?_⟩
 have he:gV s.depth s.level s.index=0:=by simp_all [gV,if_neg]
 grind [decide,dC,bne]
def found (b:aA) (v:Int):Bool:=decide (aK (fun i=>b.lf i 0==v) b.nl 0≥0)
def bK (a:aA):Int:=bif dC a then db a.depth a.level a.index else 0
def oz (a:aA):Int:=bif dC a then dg a.depth a.level a.index else 0
def cK (a b:aA) (x:Nat):List Int:=((List.range x).filter fun i=>found b (a.lf i 0)).map fun (i:Nat)=>bK a+(i:Int)
def da (a b:aA):List Int:=if a.a≠b.a then [] else cK a b a.nl
theorem qH {a b:aA} {x:Nat} (h:found b (a.lf x 0)=true):cK a b (x+1)=cK a b x++[bK a+x]:=by grind [cK,List.range_succ]
theorem qX {a b:aA} {x:Nat} (h:found b (a.lf x 0)=false):cK a b (x+1)=cK a b x:=by grind [cK,List.range_succ]
theorem vZ {a b:aA} {x:Nat} (h:found b (a.lf x 0)=true):(cK a b x).length+1=(cK a b (x+1)).length:=by grind [qH]
theorem wv {a b:aA} {x:Nat} (h:found b (a.lf x 0)=false):(cK a b x).length=(cK a b (x+1)).length:=by rw [qX h]
theorem nW (a b:aA) (x:Nat):(cK a b x).length≤x:=by grind [cK,List.length_map,List.length_filter_le,found,List.range]
theorem lu (a:aA):0≤bK a∧bK a≤1024:=by
 unfold bK
 cases dC a with
 | false=>simp
 | true =>
  simp only [cond_true,db]
  split
  ·rename_i h
   obtain ⟨h1,h2,h3,h4,h5,h6⟩:=iH h
   obtain ⟨q1,_,q2,q3⟩:=p2 (k:=a.depth - a.level) (by omega) (by omega)
   obtain ⟨_,_,r2,r3⟩:=p2 (k:=a.level) (by omega) (by omega)
   obtain ⟨b1,b2,b3,b4⟩:=bnd h5 h6 r3 q2 q3
   omega
  omega
theorem zL {a b:aA} {x:Nat} (hx:x≤1000) (h:found b (a.lf x 0)=true):cK a b (x+1)=cK a b x++[IntKind.wrap .i64 (bK a+x)]:=by
 have:=lu a
 grind [qH,wI]
theorem vK {os:List (Option Ob)} {a b:aA} {x:Nat} (h:found b (a.lf x 0)=false):aH os ⟨1,(cK a b x).length,true,.fn (vT .i64 (cK a b x))⟩ ⟨1,(cK a b (x+1)).length,true,.fn (vT .i64 (cK a b (x+1)))⟩:=by
 rw [qX h];exact .refl _
theorem wS {a b:aA} {x:Nat} (h0:(a.a != b.a)=false) (hx:x=a.nl):cK a b x=da a b:=by
 subst hx;exact (if_neg (by grind)).symm
theorem vE {a b:aA} (h0:(a.a != b.a)=true):da a b=[]:=if_pos (by grind)
theorem Ax (a b:aA):(!decide (aK (fun i => !dC (bif Nat.beq i 0 then a else b)) 2 0≥0))=(dC a&&dC b):=by
 rw [gH]
 have:List.range 2=[0,1]:=rfl
 rw [this]
 simp
 rfl
theorem both {a b:Bool} (h:(!(a&&b))=false):(a&&b)=true:=by grind
def aA.zero:aA:=⟨0,0,0,0,0,fun _=>0,0,0,0,0,0,0,fun _=>0,0,0,0,fun _ _=>0,0,0,fun _ _=>0⟩
def PD (s:aA) (k b:Int):Int:=if dC s then (if k<0∨11<k∨b<1∨1000<b then 2 else if (k=10∧s.nl=1)∨(k=11∧s.np=0) then 7 else 0) else 1
def x1 (n:Int):Int:=IntKind.wrap .u8 (BitVec.toNat (BitVec.ofInt 8 n ^^^ BitVec.ofInt 8 1))
theorem Gj {l l':List AV} {n t:Nat} (h:l.length=n):aO (l++l') (n+t)=aO l' t:=by grind [aO,List.getElem?_append_right,Nat.add_sub_cancel_left]
theorem C7 {l l':List AV} {t:Nat} (h:t<l.length):aO (l++l') t=aO l t:=by grind [aO,List.getElem?_append_left]
theorem xI (s:aA) (x y:AV) {t:Nat} (ht:t<32):aE (aO (s.cw x y) (5+t))=s.root t:=by
 have e:s.cw x y=[.int .i64 s.ju,.int .i64 s.fK,.int .i64 s.gq,.int .i64 s.depth,.int .i64 s.a]++((List.range 32).map (fun j=>.int .u8 (s.root j))++(s.cw x y).drop 37):=rfl
 rw [e,Gj (n:=5) rfl,C7 (by grind),dw ht]
 rfl
structure P2 (s : aA) (k b : Int) : Prop where
  e : PD s k b = 0
  k0 : 0 ≤ k
  k1 : k ≤ 11
  b0 : 0 ≤ b
  nl : 0 < s.nl
  np : k = 11 → 0 < s.np
end Go.Sp
