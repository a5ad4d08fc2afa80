/- Part of the proof: EnAppend, EnAppend2, EnGive, EnOpD, EnRegion, EnTree, EnWalk, EnUse, EnLaw, SpMath. -/
import Derived.Test.YtcageinnelhonaaGreatDoorM1
import Derived.Deep.Upon
import Derived.Lib.AppendZerosOnto
import Derived.Deep.LoopGhost
import Derived.LoopN
import Derived.KernelRfl
namespace Go.Am
open Go.IntKind (wrap)
open Int (toNat)
open Go.RowKit
def islRep (hom:Bool) (s:Nat) (f:Nat→Nat→AV):Rep:=match hom with
 | true=>.fn f
 | false=>.row (fun r=>(List.range s).map (f r))
theorem islRep_rel {β:Book} {w:World} {hom:Bool} {s:Nat} {f:Nat→Nat→AV} {r j:Nat} {v:Value} (h:Rel β w (f r j) v):Rel β w ((islRep hom s f) r j) v:=by
 cases hom with
 | true=>exact h
 | false=>exact atL_range h
def srcOf (H:Heap) (hom isS:Bool) (s:Nat):AV→Option (Nat×Rep)
 | .isl es m f=>bif isS&&Nat.beq es s then some (m,islRep hom s f) else none
 | .nsl=>bif isS then some (0,.lst []) else none
 | .esl=>bif isS then some (0,.lst []) else none
 | .osl id es i m=>match H id with
  | some o=>bif isS&&(Nat.beq es s&&Nat.beq o.es s) then some (m,o.f.shift i) else none
  | none=>none
 | .nn v=>srcOf H hom isS s v
 | .str b=>bif !isS&&Nat.beq s 1 then some (b.size,.fn fun r _=>.int .u8 (b.data.toList.getD r 0).toNat) else none
 | _=>none
def dstOf (H:Heap) (s:Nat):AV→Option (List Nat×Nat×Rep)
 | .nsl=>some ([],0,.lst [])
 | .esl=>some ([],0,.lst [])
 | .osl id es 0 len=>match H id with
  | some o=>bif Nat.beq es s&&Nat.beq o.es s then some ([id],len,o.f) else none
  | none=>none
 | _=>none
def srcKind (P:Program) (t:TypeId):Option Bool:=match P.underlying t with
 | some (.slice _)=>some true
 | some .string=>some false
 | _=>none
def rowsInt (s m:Nat) (l:List (List AV)):Option IntKind:=bif Nat.ble m l.length&&l.all (fun x=>Nat.beq x.length s) then kindAll (atL l.flatten) l.flatten.length else none
def srcAt (m n:Nat) (l:List (List AV)) (r j:Nat):AV:=match l with
 | [x]=>bif Nat.ble m 1 then atL x j else atL (l.getD (r - n) []) j
 | l=>atL (l.getD (r - n) []) j
def Rep.app (s n m:Nat) (f g:Rep):Rep:=match f,g with
 | .lst l,.lst l'=>bif Nat.beq n l.length then .lst (l++l') else .cat n (.lst l) (.lst l')
 | .lst l,.fn g=>bif Nat.beq n 0 then .fn g else match rowsInt s n l with
  | some kk=>.fn (fun r j=>mixA (Nat.blt r n) (.int kk (intOfAV (srcAt n 0 l r j))) (g (r - n) j))
  | none=>.fn (fun r j=>mixA (Nat.blt r n) (atL (l.getD r []) j) (g (r - n) j))
 | .lst l,g=>bif Nat.beq n 0 then g.bare else .cat n (.lst l) g
 | .fn f,.fn g=>.fn (fun r j=>mixA (Nat.blt r n) (f r j) (g (r - n) j))
 | .fn f,.lst l=>match rowsInt s m l with
  | some kk=>.fn (fun r j=>mixA (Nat.blt r n) (f r j) (.int kk (intOfAV (srcAt m n l r j))))
  | none=>.cat n (.fn f) (.lst l)
 | f,g=>.cat n f g
theorem rowsInt_spec {s m:Nat} {l:List (List AV)} {kk:IntKind} (h:rowsInt s m l=some kk) {r j:Nat} (hr:r<m) (hj:j<s):∃ x,atL (l.getD r []) j=.int kk x:=by
 unfold rowsInt at h
 obtain ⟨hc,h⟩:=bif_some h
 rw [Bool.and_eq_true,Nat.ble_eq,List.all_eq_true] at hc
 have hrl:r<l.length:=by omega
 have hx:=Nat.eq_of_beq_eq_true (hc.2 l[r] (List.getElem_mem hrl))
 have hj':j<l[r].length:=by omega
 have e:atL (l.getD r []) j=l[r][j]:=by grind [atL,List.getElem?_eq_getElem]
 have hm:l[r][j]∈l.flatten:=List.mem_flatten.2 ⟨l[r],List.getElem_mem hrl,List.getElem_mem hj'⟩
 grind [List.getElem_of_mem,kindAll_spec,atL,List.getElem?_eq_getElem]
theorem srcAt_eq {m n:Nat} {l:List (List AV)} {r j:Nat} (h1:n≤r) (h2:r<n+m):srcAt m n l r j=atL (l.getD (r - n) []) j:=by
 unfold srcAt
 grind [Nat.ble,Nat.ble_eq]
theorem Rep.app_old {β:Book} {w:World} {s n m:Nat} {f g:Rep} {r j:Nat} {v:Value} (hr:r<n) (hj:j<s) (h:Rel β w (f r j) v):Rel β w ((Rep.app s n m f g) r j) v:=by
 have hb:Nat.blt r n=true:=by simp_all
 have hcat:∀ f g:Rep,Rel β w (f r j) v→Rel β w ((Rep.cat n f g) r j) v:=fun f g h=>by
  show Rel β w (mixA _ _ _) v;grind [mixA_true]
 unfold Rep.app
 split
 ·rename_i l l'
  cases hq:Nat.beq n l.length with
  | true =>
   have:=Nat.eq_of_beq_eq_true hq
   show Rel β w (atL ((l++l').getD r []) j) v
   rw [List.getD_eq_getElem?_getD,List.getElem?_append_left (by omega),← List.getD_eq_getElem?_getD]
   exact h
  | false=>grind
 ·rename_i l g
  cases hq:Nat.beq n 0 with
  | true=>simp_all
  | false =>
   show Rel β w ((match rowsInt s n l with
    | some kk=>Rep.fn (fun r j=>mixA (Nat.blt r n) (.int kk (intOfAV (srcAt n 0 l r j))) (g (r - n) j))
    | none=>Rep.fn (fun r j=>mixA (Nat.blt r n) (atL (l.getD r []) j) (g (r - n) j))) r j) v
   have h:Rel β w (atL (l.getD r []) j) v:=h
   split
   ·rename_i kk hk
    show Rel β w (mixA _ _ _) v
    rw [hb,srcAt_eq (Nat.zero_le _) (by omega)]
    obtain ⟨x,hx⟩:=rowsInt_spec hk hr hj
    rw [hx] at h
    rw [show r - 0=r from rfl,hx]
    exact mixA_true h
   ·show Rel β w (mixA _ _ _) v;grind [mixA_true]
 ·grind [Nat.beq,Nat.eq_of_beq_eq_true]
 ·show Rel β w (mixA _ _ _) v;rw [hb];exact mixA_true h
 ·split
  ·show Rel β w (mixA _ _ _) v;rw [hb];exact mixA_true h
  grind
 grind
theorem Rep.app_ty (s n m:Nat) (f g:Rep):(Rep.app s n m f g).tyOf=none:=by
 unfold Rep.app
 split
 ·cases Nat.beq n _<;>rfl
 ·cases Nat.beq n 0 with
  | true=>rfl
  | false=>simp only [cond_false];split<;>rfl
 ·cases Nat.beq n 0 with
  | true=>exact Rep.bare_ty _
  | false=>rfl
 ·rfl
 ·split<;>rfl
 ·rfl
theorem Rep.app_new {β:Book} {w:World} {s n m:Nat} {f g:Rep} {r j:Nat} {v:Value} (h1:n≤r) (h2:r<n+m) (hj:j<s) (h:Rel β w (g (r - n) j) v):Rel β w ((Rep.app s n m f g) r j) v:=by
 have hb:Nat.blt r n=false:=by grind [Nat.blt,Nat.blt_eq]
 have hcat:∀ f g:Rep,Rel β w (g (r - n) j) v→Rel β w ((Rep.cat n f g) r j) v:=fun f g h=>by
  show Rel β w (mixA _ _ _) v;grind [mixA_false]
 unfold Rep.app
 split
 ·rename_i l l'
  have h:Rel β w (atL (l'.getD (r - n) []) j) v:=h
  cases hq:Nat.beq n l.length with
  | true =>
   have:=Nat.eq_of_beq_eq_true hq
   show Rel β w (atL ((l++l').getD r []) j) v
   rw [List.getD_eq_getElem?_getD,List.getElem?_append_right (by omega),← List.getD_eq_getElem?_getD,← this]
   exact h
  | false=>exact hcat _ _ h
 ·rename_i l g
  cases hq:Nat.beq n 0 with
  | true =>
   have:=Nat.eq_of_beq_eq_true hq
   subst this
   exact h
  | false =>
   show Rel β w ((match rowsInt s n l with
    | some kk=>Rep.fn (fun r j=>mixA (Nat.blt r n) (.int kk (intOfAV (srcAt n 0 l r j))) (g (r - n) j))
    | none=>Rep.fn (fun r j=>mixA (Nat.blt r n) (atL (l.getD r []) j) (g (r - n) j))) r j) v
   split
   ·show Rel β w (mixA _ _ _) v;rw [hb];exact mixA_false h
   ·show Rel β w (mixA _ _ _) v;rw [hb];exact mixA_false h
 ·rename_i l _ _
  cases hq:Nat.beq n 0 with
  | true =>
   have:=Nat.eq_of_beq_eq_true hq
   subst this
   show Rel β w (g.bare r j) v
   rw [Rep.bare_at]
   exact h
  | false=>exact hcat _ _ h
 ·show Rel β w (mixA _ _ _) v;rw [hb];exact mixA_false h
 ·rename_i l
  have h:Rel β w (atL (l.getD (r - n) []) j) v:=h
  split
  ·rename_i kk hk
   show Rel β w (mixA _ _ _) v
   rw [hb,srcAt_eq h1 h2]
   obtain ⟨x,hx⟩:=rowsInt_spec hk (r:=r - n) (by omega) hj
   rw [hx] at h ⊢
   exact mixA_false h
  ·exact hcat _ _ h
 ·exact hcat _ _ h
def Rep.appT (s:Nat) (e:TypeId) (n m:Nat) (f g:Rep):Rep:=match f with
 | .ty t f'=>bif Nat.beq t e&&(Nat.beq s 1 && !Nat.beq t noTy) then .ty t (Rep.app s n m f' g) else Rep.app s n m f' g
 | f=>Rep.app s n m f g
theorem Rep.appT_ty {s:Nat} {e:TypeId} {n m:Nat} {f g:Rep} {t:TypeId} (h:(Rep.appT s e n m f g).tyOf=some t):e=t∧s=1∧f.tyOf=some t∧t≠noTy:=by
 unfold Rep.appT at h
 split at h
 ·rename_i t' f'
  cases hb:(Nat.beq t' e&&(Nat.beq s 1 && !Nat.beq t' noTy)) with
  | true =>
   rw [hb] at h
   cases h
   rw [Bool.and_eq_true,Bool.and_eq_true,Bool.not_eq_true'] at hb
   exact ⟨(Nat.eq_of_beq_eq_true hb.1).symm,Nat.eq_of_beq_eq_true hb.2.1,rfl,fun e=>by simp_all⟩
  | false=>simp_all [cond_false,Rep.app_ty]
 grind [Rep.app_ty]
theorem Rep.appT_old {β:Book} {w:World} {s:Nat} {e:TypeId} {n m:Nat} {f g:Rep} {r j:Nat} {v:Value} (hr:r<n) (hj:j<s) (h:Rel β w (f r j) v):Rel β w ((Rep.appT s e n m f g) r j) v:=by
 unfold Rep.appT
 split
 ·rename_i t' f'
  cases hb:(Nat.beq t' e&&(Nat.beq s 1 && !Nat.beq t' noTy)) with
  | true=>exact Rep.app_old (f:=f') hr hj h
  | false=>exact Rep.app_old (f:=f') hr hj h
 grind [Rep.app_old]
theorem Rep.appT_new {β:Book} {w:World} {s:Nat} {e:TypeId} {n m:Nat} {f g:Rep} {r j:Nat} {v:Value} (h1:n≤r) (h2:r<n+m) (hj:j<s) (h:Rel β w (g (r - n) j) v):Rel β w ((Rep.appT s e n m f g) r j) v:=by
 unfold Rep.appT
 split
 ·rename_i t' f'
  cases hb:(Nat.beq t' e&&(Nat.beq s 1 && !Nat.beq t' noTy)) with
  | true=>exact Rep.app_new (f:=f') h1 h2 hj h
  | false=>grind [Rep.app_new]
 grind [Rep.app_new]
def astep0 (P:Program) (ρ:Operand→AV) (H:Heap) (nid:Nat):Op→Option (Prop×AV×List Nat×Ob)
 | .call { callee:=.builtin .append,args:=args,argTypes:=ts }=>match args.toList,ts.toList with
  | [x,y],[t,t2]=>match P.underlying t with
   | some (.slice e)=>match P.info? e,srcKind P t2 with
    | some inf,some isS=>match inf.zero with
     | some z=>bif Nat.blt 0 inf.size&&(Nat.blt 0 inf.bytes&&Nat.beq (zcells z).length inf.size) then
       match dstOf H inf.size (ρ x),srcOf H (kindAll (atL (zcells z)) inf.size).isSome isS inf.size (ρ y) with
       | some (ids,n,f),some (m,g)=>some ((n+m)*inf.bytes≤140737488355328,.osl nid inf.size 0 (n+m),ids,⟨inf.size,n+m,true,Rep.appT inf.size e n m f g⟩)
       | _,_=>none
      else none
     | none=>none
    | _,_=>none
   | _=>none
  | _,_=>none
 | _=>none
def zstep (P:Program) (ρ:Operand→AV) (nid:Nat):Op→Option (Prop×AV×List Nat×Ob)
 | .call { callee:=.builtin .append,args:=args,argTypes:=ts }=>match args.toList,ts.toList with
  | [x,y],[t,t2]=>match P.underlying t,P.underlying t2,ρ x,ρ y with
   | some (.slice e),some (.int _),.nsl,.int _ k=>match P.info? e with
    | some inf=>match inf.zero with
     | some z=>bif Nat.blt 0 inf.size&&(Nat.blt 0 inf.bytes&&(Nat.beq (zcells z).length inf.size&&(zcells z).all AV.one)) then
       some (0<k∧k*inf.bytes≤140737488355328,.osl nid inf.size 0 k.toNat,[],⟨inf.size,k.toNat,true,madeRep z inf.size⟩)
      else none
     | none=>none
    | none=>none
   | _,_,_,_=>none
  | _,_=>none
 | _=>none
def cvstep (P:Program) (ρ:Operand→AV) (H:Heap):Op→Option (Prop×AV×List Nat×Ob)
 | .convert s d x=>bif Nat.beq s d then match P.underlying s,ρ x with
   | some (.slice e),.osl id es i n=>match P.underlying e,H id with
    | some (.int .u8),some o=>bif Nat.beq es 1&&(Nat.beq o.es 1&&(Nat.blt 0 n&&(List.range n).all fun r=>isIntK .u8 (o.f (i+r) 0))) then
      some ((0:Int)≤0,.isl 1 n (fun r _=>.int .u8 (intOfAV (o.f (i+r) 0))),[id],⟨1,0,true,.lst []⟩)
     else none
    | _,_=>none
   | _,_=>none
  else none
 | _=>none
def astep (P:Program) (ρ:Operand→AV) (H:Heap) (nid:Nat) (o:Op):Option (Prop×AV×List Nat×Ob) :=
 match astep0 P ρ H nid o with
 | some r=>some r
 | none=>match zstep P ρ nid o with
  | some r=>some r
  | none=>cvstep P ρ H o
def rowsL (m s:Nat) (vals:Nat→Nat→Value):List Value:=(List.range (m*s)).map fun k=>vals (k / s) (k%s)
theorem rowsL_length (m s:Nat) (vals:Nat→Nat→Value):(rowsL m s vals).length=m*s:=by simp [rowsL]
theorem rowsL_get {m s:Nat} {vals:Nat→Nat→Value} {r j:Nat} (hr:r<m) (hj:j<s):(rowsL m s vals)[r*s+j]? = some (vals r j):=by
 have hlt:r*s+j<m*s:=by
  have:=Nat.mul_le_mul_right s (show r+1≤m by omega)
  grind
 unfold rowsL
 rw [List.getElem?_map,List.getElem?_range hlt]
 simp only [Option.map_some,Option.some.injEq]
 have h1:(r*s+j) / s=r:=by
  rw [Nat.add_comm,Nat.add_mul_div_right _ _ (by omega),Nat.div_eq_of_lt hj,Nat.zero_add]
 grind [Nat.add_comm,Nat.add_mul_mod_self_right,Nat.mod_eq_of_lt]
theorem rowsL_mem {m s k:Nat} {vals:Nat→Nat→Value} {u:Value} (h:(rowsL m s vals)[k]? = some u):∃ r j,r<m∧j<s∧k=r*s+j∧u=vals r j:=by
 have hk:k<m*s:=by grind [List.getElem?_eq_some_iff,rowsL_length]
 have hs:0<s:=by grind
 refine ⟨k / s,k%s,(Nat.div_lt_iff_lt_mul hs).2 hk,Nat.mod_lt _ hs,?_,?_⟩
 ·simp [Nat.div_add_mod,Nat.mul_comm]
 grind [rowsL,List.getElem?_range]
section
variable {P : Program} {β : Book} {w : World} {H : Heap}
theorem src_ok {hom isS:Bool} {s m:Nat} {g:Rep} {y:AV} {vy:Value} {tx:TypeId} (hs:0<s) (hH:HeapOk β w H) (hk:srcKind P tx=some isS) (hr:Rel β w y vy) (h:srcOf H hom isS s y=some (m,g)) :
  ∃ news,Src P s tx vy m news w∧∀ r j,r<m→j<s→∃ u,news[r*s+j]? = some u∧Rel β w (g r j) u∧u.oneCell'=true:=by
 have hkind:isS=true→∃ e',P.underlying tx=some (.slice e'):=by
  rintro rfl
  grind [srcKind]
 have zero:∀ (a:Option Addr) (cap:Nat),isS=true→∃ news,Src P s tx (.slice a 0 cap) 0 news w∧∀ r j,r<0→j<s→∃ u,news[r*s+j]? = some u∧Rel β w (g r j) u∧u.oneCell'=true:=by
  intro a cap hS
  obtain ⟨e',he⟩:=hkind hS
  cases a with
  | none=>exact ⟨[],Src.ofNil w he cap,fun r j h=>absurd h (by omega)⟩
  | some a=>exact ⟨[],Src.ofSlice w he a 0 cap [] (by simp) (by simp) (by simp),fun r j h=>absurd h (by omega)⟩
 have rows:∀ (b off cap:Nat) (vals:Nat→Nat→Value),isS=true→(∀ r j,r<m→j<s→w.cell? ⟨b,off+r*s+j,none⟩=some (vals r j))→(∀ r j,r<m→j<s→(vals r j).oneCell'=true) →
   (∀ r j,r<m→j<s→Rel β w (g r j) (vals r j))→∃ news,Src P s tx (.slice (some ⟨b,off,none⟩) m cap) m news w∧∀ r j,r<m→j<s→∃ u,news[r*s+j]? = some u∧Rel β w (g r j) u∧u.oneCell'=true:=by
  intro b off cap vals hS hc ho hrel
  obtain ⟨e',he⟩:=hkind hS
  refine ⟨rowsL m s vals,Src.ofSlice w he ⟨b,off,none⟩ m cap _ (rowsL_length ..) (fun k u hu=>?_) (fun u hu=>?_),fun r j hr' hj=>⟨vals r j,rowsL_get hr' hj,hrel r j hr' hj,ho r j hr' hj⟩⟩
  ·obtain ⟨r,j,hr',hj,rfl,rfl⟩:=rowsL_mem hu
   grind [add_mk,Nat.add_assoc]
  ·obtain ⟨k,hk',rfl⟩:=List.getElem_of_mem hu
   obtain ⟨r,j,hr',hj,_,e⟩:=rowsL_mem (List.getElem?_eq_getElem hk')
   grind
 cases hr with
 | nsl=>obtain ⟨hc,h⟩:=bif_some h;cases h<;>simp_all
 | @esl a=>obtain ⟨hc,h⟩:=bif_some h;cases h<;>simp_all
 | @isl es n cap f b off vals he hcap hb hc ho hrr hcl =>
  replace h:=bif_some h;obtain ⟨hc',h⟩:=h
  rw [Bool.and_eq_true] at hc'
  have e:=Nat.eq_of_beq_eq_true hc'.2
  subst e
  cases h
  exact rows b off cap vals hc'.1 hc ho (fun r j hr hj=>islRep_rel (hrr r j hr hj))
 | @isl0 es cap f a _ =>
  replace h:=bif_some h;obtain ⟨hc',h⟩:=h
  rw [Bool.and_eq_true] at hc'
  cases h<;>simp_all
 | @osl id es i len b n cap sz mu el h1 hn hcap hsh hz =>
  simp only [srcOf] at h
  cases ho:H id with
  | none=>grind
  | some o =>
   simp only [ho] at h
   replace h:=bif_some h;obtain ⟨hc',h⟩:=h
   simp only [Bool.and_eq_true] at hc'
   have e1:=Nat.eq_of_beq_eq_true hc'.2.1
   have e2:=Nat.eq_of_beq_eq_true hc'.2.2
   subst e1
   cases h
   obtain ⟨rfl,_,cs,el',hheap,hsz,hcells⟩:=hH.lives ho h1
   rw [e2] at hcells
   have key:∀ r j,r<m→j<es→∃ v,cs[(r+i)*es+j]? = some v∧Rel β w (o.f (r+i) j) v∧v.oneCell'=true:=fun r j hr' hj=>hcells (r+i) j (by omega) hj
   refine rows b (i*es) cap (fun r j=>cs.getD ((r+i)*es+j) undef) hc'.1 (fun r j hr' hj=>?_) (fun r j hr' hj=>?_) (fun r j hr' hj=>?_)
   ·obtain ⟨v,hv,_⟩:=key r j hr' hj
    have e:i*es+r*es+j=(r+i)*es+j:=by grind
    rw [e]
    simp [World.cell?,hheap,hv,Array.getD_eq_getD_getElem?]
   ·obtain ⟨v,hv,_,ho'⟩:=key r j hr' hj
    simp_all
   ·obtain ⟨v,hv,hr'',_⟩:=key r j hr' hj
    simp only [Array.getD_eq_getD_getElem?,hv,Option.getD_some]
    grind [Rep.shift_at]
 | @osl0 id es i a h1 =>
  simp only [srcOf] at h
  cases ho:H id with
  | none=>grind
  | some o =>
   simp only [ho] at h
   replace h:=bif_some h;obtain ⟨hc',h⟩:=h
   simp only [Bool.and_eq_true] at hc'
   cases h<;>simp_all
 | @oslD id es i len n cap a h1 =>
  simp only [srcOf] at h
  cases ho:H id with
  | none=>grind
  | some o=>exact (hH.dead ho h1).elim
 | @str b =>
  replace h:=bif_some h;obtain ⟨hc',h⟩:=h
  rw [Bool.and_eq_true] at hc'
  have e:=Nat.eq_of_beq_eq_true hc'.2
  subst e
  have hF:=not_true hc'.1
  subst hF
  have hu:P.underlying tx=some .string:=by grind [srcKind]
  cases h
  refine ⟨byteCells b,Src.ofString w hu b,fun r j hr' hj=>?_⟩
  obtain rfl:j=0:=by omega
  have hlt:r<b.data.toList.length:=by simp_all
  refine ⟨.int .u8 (b.data.toList[r]).toNat,?_,?_,rfl⟩
  ·grind [byteCells]
  ·show Rel β w (.int .u8 ((b.data.toList.getD r 0).toNat:Int)) _
   have:b.data.toList.getD r 0=b.data.toList[r]:=by grind
   rw [this]
   exact .int
 | int=>cases h
 | bool=>cases h
 | raw=>cases h
 | own=>cases h
 | ownD=>cases h
 | oel=>cases h
 | oelD=>cases h
 | ipt=>cases h
 | agg=>cases h
 | tup=>cases h
 | fn=>cases h
 | ifc=>cases h
 | nn h'=>exact src_ok hs hH hk h' h
 | mpc=>cases h
 | junk=>cases h
theorem dst_ok {s n:Nat} {ids:List Nat} {f:Rep} {x:AV} {vx:Value} (hH:HeapOk β w H) (hr:Rel β w x vx) (h:dstOf H s x=some (ids,n,f)) :
  (n=0∧(∃ a,vx=.slice a 0 0)∧(ids=[]∨∃ id,ids=[id]∧β.m id≠none)) ∨
  (∃ id b cap cs el nn mu sz,ids=[id]∧vx=.slice (some ⟨b,0,none⟩) n cap∧β.m id=some (.lives b nn mu)∧n≤nn∧n≤cap∧w.heap[b]? = some (.cells cs el (0,0))∧sz=cs.size∧cap*s≤sz∧(∀ t,f.tyOf=some t→el=t) ∧
   ∀ r j,r<n→j<s→∃ u,cs[r*s+j]? = some u∧Rel β w (f r j) u∧u.oneCell'=true):=by
 cases hr with
 | nsl=>cases h<;>grind
 | esl=>cases h<;>grind
 | @osl id es i len b nn cap sz mu el h1 hn hcap hsh hz =>
  cases i with
  | succ i=>simp [dstOf] at h
  | zero =>
   simp only [dstOf] at h
   cases ho:H id with
   | none=>grind
   | some o =>
    simp only [ho] at h
    replace h:=bif_some h;obtain ⟨hc',h⟩:=h
    rw [Bool.and_eq_true] at hc'
    have e1:=Nat.eq_of_beq_eq_true hc'.1
    have e2:=Nat.eq_of_beq_eq_true hc'.2
    subst e1
    cases h
    obtain ⟨rfl,_,cs,el',hheap,hszo,hcells⟩:=hH.lives ho h1
    rw [e2] at hcells
    have hsz':sz=cs.size:=by grind [World.shape?]
    exact .inr ⟨id,b,cap,cs,el',_,mu,sz,rfl,by simp,h1,by omega,hcap,hheap,hsz',by grind,fun t h=>(hszo.ty t h).2.1,fun r j hr' hj=>hcells r j (by omega) hj⟩
 | @osl0 id es i a h1 =>
  cases i with
  | succ i=>simp [dstOf] at h
  | zero =>
   simp only [dstOf] at h
   grind
 | @oslD id es i len nn cap a h1 =>
  cases i with
  | succ i=>simp [dstOf] at h
  | zero =>
   simp only [dstOf] at h
   cases ho:H id with
   | none=>grind
   | some o=>exact (hH.dead ho h1).elim
 | int=>cases h
 | bool=>cases h
 | str=>cases h
 | raw=>cases h
 | own=>cases h
 | ownD=>cases h
 | oel=>cases h
 | oelD=>cases h
 | isl=>cases h
 | isl0=>cases h
 | ipt=>cases h
 | agg=>cases h
 | tup=>cases h
 | fn=>cases h
 | ifc=>cases h
 | nn _=>cases h
 | mpc=>cases h
 | junk=>cases h
end
section
variable {K : Ctx} {ops : Array Oper} {c : Nat} {E : Nat → Prop} {β : Book} {s : RSt} {a : Act} {w : World} {i : Nat} {o : Oper}
theorem RSim.moved2 {u:Value} {v:AV} {x:Ob} {w':World} {own:Own} {kills:List Nat} (hs:RSim K ops c E β s a w) (hp:Pre K ops s i o) (hE:E i) (hg:s.G o.guard=true)
  (hkills:∀ id,id∈kills→β.m id≠none∧∀ b n mu,β.m id=some (.lives b n mu)→mu=true∧∃ o,w.heap[b]? = some o∧o.isCells=true)
  (hown:∀ b n mu,own=.lives b n mu→b<w'.heap.size∧(w.heap.size≤b∨∃ id,id∈kills∧∃ n mu,β.m id=some (.lives b n mu)))
  (hos:w'.os=w.os) (htape:w'.tape=w.tape) (hout:w'.output=w.output) (hsize:w.heap.size≤w'.heap.size)
  (hblock:∀ k,k<w.heap.size→(∀ id,id∈kills→∀ n mu,β.m id≠some (.lives k n mu))→w'.heap[k]? = w.heap[k]?) (hshape:∀ k,k<w.heap.size→w'.shape? k=w.shape? k)
  (hN:∀ β':Book,β'.m (c+8*i)=some own→Keeps β w β' w'→(∀ id,id∈kills→β'.m id=some .dead)→(∀ id,id≠c+8*i→id∉kills→β'.m id=β.m id)→β'.F=β.F→Rel β' w' v u∧Holds β' w' x (c+8*i)) :
  ∃ β',RSim K ops c (less E i) β' (s.app i o ⟨v,true,[],(c+8*i,some x)::kills.map (fun id=>(id,none)),[]⟩) (a.put o.dst u) w':=by
 have hfr:β.m (c+8*i)=none:=hs.h.freshE i 0 hE (by omega)
 have hnk:∀ id,id∈kills→c+8*i≠id:=fun id hid e=>(hkills id hid).1 (e▸hfr)
 let β':Book:=setB β ((c+8*i,own)::kills.map (fun id=>(id,Own.dead)))
 have lkD:∀ (l:List Nat) id,look (l.map (fun id=>(id,Own.dead))) id=if id∈l then some .dead else none:=by
  intro l id
  induction l with
  | nil=>rfl
  | cons y l ih =>
   grind [look_cons,id,h]
 have lkN:∀ (l:List Nat) id,look (l.map (fun id=>(id,(none:Option Ob)))) id=if id∈l then some none else none:=by
  intro l id
  induction l with
  | nil=>rfl
  | cons y l ih =>
   grind [look_cons,id,h]
 have m0:β'.m (c+8*i)=some own:=setB_at (by rw [look_cons,if_pos rfl])
 have m1:∀ id,id∈kills→β'.m id=some .dead:=fun id hid=>setB_at (by rw [look_cons,if_neg (hnk id hid),lkD,if_pos hid])
 have m2:∀ id,id≠c+8*i→id∉kills→β'.m id=β.m id:=fun id h1 h2=>setB_old (by simp_all [look_cons]<;>omega)
 have hk:Keeps β w β' w':=by
  refine ⟨fun id o ho=>?_,fun b hlt hf=>hblock b hlt (fun id hid n mu hm=>?_),fun b hlt hf=>⟨hf.1,fun id n=>?_⟩,fun b e z hbs=>?_⟩
  ·by_cases h1:id∈kills
   ·exact ⟨.dead,m1 id h1,by cases o<;>trivial⟩
   ·refine ⟨o,?_,o.later_refl⟩
    grind
  ·have:=((hkills id hid).2 b n mu hm).1
   subst this
   exact hf.2 id n hm
  ·by_cases h0:id=c+8*i
   ·subst h0
    rw [m0]
    intro h
    injection h with h
    obtain ⟨_,h1|⟨id',hid',n',mu',hm'⟩⟩:=hown b n true h
    ·omega
    ·have:=((hkills id' hid').2 b n' mu' hm').1
     subst this
     exact hf.2 id' n' hm'
   ·by_cases h1:id∈kills
    ·grind
    ·rw [m2 id h0 h1];exact hf.2 id n
  grind [lt_of_shape]
 obtain ⟨hv,hob⟩:=hN β' m0 hk m1 m2 rfl
 have hkept:Kept K.B K.G w w':=by
  refine ⟨hos,htape,hout,hsize,fun k hkB hG=>hblock k (by have:=hs.h.hB;omega) (fun id hid n mu hm=>?_),fun k hkB=>hshape k (by have:=hs.h.hB;omega),fun k o hk0 ho=>(hblock k (Array.getElem?_eq_some_iff.1 hk0).1 (fun id hid n mu hm=>?_)).trans hk0⟩
  rotate_left
  ·grind
  rcases (hs.h.live id k n mu hm).1 with h|h
  ·omega
  grind
 refine ⟨β',hs.step hp hE hg hk hkept rfl (fun id ob h=>⟨fun _=>?_,fun h=>by cases h⟩) (fun id o' hl ho hgi=>?_) (fun id o' hl ho h=>?_) ?_ (fun id h=>?_) (fun id b n mu h=>?_) (fun _=>hv) (fun h=>by cases h)⟩
 ·simp only [look_cons] at h
  grind
 ·simp only [look_cons] at hl
  by_cases e:c+8*i=id
  ·grind
  ·rw [if_neg e,lkN] at hl
   by_cases h1:id∈kills
   ·grind
   ·have hon:∀ l,Eff.on ⟨v,true,[],l,[]⟩ id o'=o':=fun l=>by simp [Eff.on,look,memN]
    rw [hon]
    rcases hs.h.heap id o' ho hgi with ⟨b,g1,g2⟩|⟨g1,g2⟩
    ·refine .inl ⟨b,by grind,g2.keep hk (hblock b (hs.h.live id b _ _ g1).2 (fun id' hid' n mu hm=>h1 ?_))⟩
     rw [hs.h.inj id id' b _ _ _ _ g1 hm];omega
    ·exact .inr ⟨by grind,g2⟩
 ·simp only [look_cons] at hl
  grind
 ·have key:∀ q b n n' mu mu',β'.m (c+8*i)=some (.lives b n mu)→q≠c+8*i→β'.m q=some (.lives b n' mu')→False:=by
   intro q b n n' mu mu' h1 hq h2
   rw [m0] at h1
   injection h1 with h1
   by_cases hqk:q∈kills
   ·grind
   ·rw [m2 q hq hqk] at h2
    obtain ⟨_,h3|⟨id',hid',n2,mu2,hm'⟩⟩:=hown b n mu h1
    ·have:=(hs.h.live q b n' mu' h2).2;omega
    ·exact hqk (by rw [hs.h.inj q id' b _ _ _ _ h2 hm'];omega)
  intro p q b n n' mu mu' h1 h2
  by_cases e1:p=c+8*i<;>by_cases e2:q=c+8*i
  ·omega
  ·grind
  ·grind
  ·by_cases k1:p∈kills
   ·grind
   ·by_cases k2:q∈kills
    ·grind
    ·rw [m2 p e1 k1] at h1
     rw [m2 q e2 k2] at h2
     exact hs.h.inj p q b n n' mu mu' h1 h2
 ·by_cases e:id=c+8*i
  ·simp_all
  grind
 ·by_cases e:id=c+8*i
  ·subst e
   rw [m0] at h
   injection h with h
   obtain ⟨h2,h3|⟨id',hid',n2,mu2,hm'⟩⟩:=hown b n mu h
   ·have:=hs.h.hB
    omega
   ·exact ⟨(hs.h.live id' b n2 mu2 hm').1,h2⟩
  ·by_cases h1:id∈kills
   ·grind
   ·rw [m2 id e h1] at h
    have:=(hs.h.live id b n mu h).2
    exact ⟨(hs.h.live id b n mu h).1,by omega⟩
theorem RSim.moved {u:Value} {v:AV} {x:Ob} {w':World} {own:Own} {kills:List Nat} (hs:RSim K ops c E β s a w) (hp:Pre K ops s i o) (hE:E i) (hg:s.G o.guard=true)
  (hkills:∀ id,id∈kills→β.m id≠none∧∀ b n mu,β.m id=some (.lives b n mu)→mu=true∧∃ o,w.heap[b]? = some o∧o.isCells=true)
  (hown:∀ b n mu,own=.lives b n mu→b<w'.heap.size∧(w.heap.size≤b∨∃ id,id∈kills∧∃ n mu,β.m id=some (.lives b n mu)))
  (hos:w'.os=w.os) (htape:w'.tape=w.tape) (hout:w'.output=w.output) (hsize:w.heap.size≤w'.heap.size)
  (hblock:∀ k,k<w.heap.size→(∀ id,id∈kills→∀ n mu,β.m id≠some (.lives k n mu))→w'.heap[k]? = w.heap[k]?) (hshape:∀ k,k<w.heap.size→w'.shape? k=w.shape? k)
  (hN:∀ β':Book,β'.m (c+8*i)=some own→Keeps β w β' w'→Rel β' w' v u∧Holds β' w' x (c+8*i)) :
  ∃ β',RSim K ops c (less E i) β' (s.app i o ⟨v,true,[],(c+8*i,some x)::kills.map (fun id=>(id,none)),[]⟩) (a.put o.dst u) w' :=
 hs.moved2 hp hE hg hkills hown hos htape hout hsize hblock hshape (fun β' h1 h2 _ _ _=>hN β' h1 h2)
end
section
variable {K : Ctx} {ops : Array Oper} {c : Nat} {E : Nat → Prop} {β : Book} {s : RSt} {a : Act} {w : World} {i : Nat} {o : Oper}
theorem append_room {P:Program} {t tx ty e:TypeId} {inf:TypeInfo} (ht:P.underlying t=some (.slice e)) (hi:P.info? e=some inf) {b sLen sCap:Nat} {x:Value} {n:Nat} {news:List Value} {w':World} (hs:Src P inf.size tx x n news w)
  (hroom:sLen+n≤sCap) (hst:(storeCells ⟨b,sLen*inf.size,none⟩ news 0).run P w=.ok () w') :
  (Builtin.append_ #[t,tx] ty #[.slice (some ⟨b,0,none⟩) sLen sCap,x]).run P w=.ok (.slice (some ⟨b,0,none⟩) (sLen+n) sCap) w':=by
 rcases hs.kind with ⟨e',hk⟩|hk<;>simp [Builtin.append_,run_underlying ht,run_underlying hk,sizeOf,typeInfo,hi,hs.len,hroom,hs.cells,add_mk,hst]
theorem RSim.appended0 {ρ:Operand→AV} {f:Foot} {q:Prop} {v:AV} {ids:List Nat} {x:Ob} (hs:RSim K ops c E β s a w) (hp:Pre K ops s i o) (hE:E i) (hg:o.guard=none) (hρ:∀ x,x∈o.op.operands→Rel β w (ρ x) (a.eval x))
  (hmt:∀ id,id∈ids→(s.H id).map Ob.mu=some true∧s.ht id=none) (h:astep0 K.P ρ (vH f s.H) (c+8*i) o.op=some (q,v,ids,x)) (hq:q) :
  ∃ u w',(execOp a.eval o).run K.P w=.ok (.value u) w'∧∃ β',RSim K ops c (less E i) β' (s.app i o ⟨v,true,[],(c+8*i,some x)::ids.map (fun id=>(id,none)),[]⟩) (a.put o.dst u) w':=by
 have hH:=hs.ok f
 have hgt:s.G o.guard=true:=by rw [hg];rfl
 have hkills:∀ id,id∈ids→β.m id≠none∧∀ b n mu,β.m id=some (.lives b n mu)→mu=true∧∃ o,w.heap[b]? = some o∧o.isCells=true:=by
  intro id hid
  obtain ⟨h1,h2⟩:=hmt id hid
  cases ho:s.H id with
  | none=>grind
  | some ob =>
   simp only [ho,Option.map_some,Option.some.injEq] at h1
   rcases hs.h.heap id ob ho (by grind) with ⟨b,g1,cs,el,g3,_⟩|⟨g1,_⟩
   ·refine ⟨by grind,fun b' n' mu' h=>?_⟩
    rw [g1,h1] at h
    cases h;exact ⟨rfl,_,g3,rfl⟩
   grind
 obtain ⟨dst,op,ty,pos,after,g⟩:=o
 cases op<;>simp only [astep0,reduceCtorEq] at h
 rename_i cl
 obtain ⟨callee,args,ts⟩:=cl
 cases callee<;>first|(cases h;done)|skip
 rename_i bi
 cases bi<;>first|(cases h;done)|skip
 obtain ⟨args⟩:=args
 obtain ⟨ts⟩:=ts
 simp only at h
 split at h
 rotate_left
 ·cases h
 rename_i xo yo t t2
 split at h
 rotate_left
 ·cases h
 rename_i e hu
 split at h
 rotate_left
 ·cases h
 rename_i inf isS hi hk
 split at h
 rotate_left
 ·cases h
 rename_i z hz
 replace h:=bif_some h
 obtain ⟨hc,h⟩:=h
 simp only [Bool.and_eq_true,Nat.blt_eq] at hc
 obtain ⟨hsz,hby,hzl⟩:=hc
 have hzl:=Nat.eq_of_beq_eq_true hzl
 rw [zcells_length] at hzl
 split at h
 rotate_left
 ·cases h
 rename_i ids' n ff m gg hdst hsrc
 simp only [Option.some.injEq,Prod.mk.injEq] at h
 obtain ⟨rfl,rfl,rfl,rfl⟩:=h
 have hx:=hρ xo (by simp [Op.operands,Call.operands])
 have hy:=hρ yo (by simp [Op.operands,Call.operands])
 obtain ⟨news,hSrc,hnews⟩:=src_ok hsz hH hk hy hsrc
 have hnl:=hSrc.newsLen
 have hexec:∀ (u:Value) (w':World),(Builtin.append_ #[t,t2] ty #[a.eval xo,a.eval yo]).run K.P w=.ok u w' →
   (execOp a.eval ⟨dst,.call ⟨.builtin .append,⟨[xo,yo]⟩,⟨[t,t2]⟩⟩,ty,pos,after,g⟩).run K.P w=.ok (.value u) w':=by
  intro u w' hr
  simp [execOp,resolve,invoke,builtin,hr,Result.andThen]
 have hmax:n+m≤140737488355328:=by
  have:=Nat.mul_le_mul_left (n+m) (show 1≤inf.bytes by omega)
  omega
 have grown:∀ (base:Option Addr) (cap:Nat) (olds:List Value),a.eval xo=.slice base n cap→cap<n+m→olds.length=n*inf.size→(Builtin.firstCells inf.size n (.slice base n cap)).run K.P w.drew=.ok olds.toArray w.drew →
   (∀ r j,r<n→j<inf.size→∃ u,olds[r*inf.size+j]? = some u∧Rel β w (ff r j) u∧u.oneCell'=true) →
   ∃ u w',(execOp a.eval ⟨dst,.call ⟨.builtin .append,⟨[xo,yo]⟩,⟨[t,t2]⟩⟩,ty,pos,after,g⟩).run K.P w=.ok (.value u) w' ∧
    ∃ β',RSim K ops c (less E i) β' (s.app i ⟨dst,.call ⟨.builtin .append,⟨[xo,yo]⟩,⟨[t,t2]⟩⟩,ty,pos,after,g⟩ ⟨.osl (c+8*i) inf.size 0 (n+m),true,[],(c+8*i,some ⟨inf.size,n+m,true,Rep.appT inf.size e n m ff gg⟩)::ids'.map (fun id=>(id,none)),[]⟩) (a.put dst u) w':=by
  intro base cap olds hxe hcap hol hfc hold
  have hr:=run_append_grow_src (P:=K.P) w t t2 ty e inf z hu hi hz base n cap olds hfc (a.eval yo) m news hSrc hcap (by omega) (growslice_fits hcap hq)
  rw [← hxe] at hr
  have hge:=grownCap_ge w (n+m) cap e
  generalize hcs:(olds++news).toArray++Builtin.zeroCells z.cells (grownCap w (n+m) cap e - (n+m))=cs at hr
  have hcsz:cs.size=grownCap w (n+m) cap e*inf.size:=by
   rw [← hcs]
   simp only [Array.size_append,List.size_toArray,List.length_append,size_zeroCells,hol,hnl,hzl,← Nat.add_mul]
   grind
  have hget:∀ k,k<(n+m)*inf.size→cs[k]? = (olds++news)[k]? := by grind
  refine ⟨_,_,hexec _ _ hr,?_⟩
  have hnewblk:(w.drew.alloc (.cells cs e)).heap[w.heap.size]? = some (.cells cs e (0,0)):=heap_alloc_new w.drew _
  refine hs.moved (own:=.lives w.heap.size (n+m) true) hp hE hgt hkills (fun b n' mu' hb=>?_) rfl rfl rfl ?_ (fun k hk' _=>Below.heap_alloc w.drew _ k hk') (fun k hk'=>shape_of_block (Below.heap_alloc w.drew _ k hk')) (fun β' hm hk'=>⟨?_,?_⟩)
  ·grind
  ·simp
  ·have:=Rel.osl (β:=β') (w:=w.drew.alloc (.cells cs e)) (id:=c+8*i) (es:=inf.size) (i:=0) (len:=n+m) (cap:=grownCap w (n+m) cap e) (sz:=cs.size) (el:=e) hm (by omega) hge (by grind [World.shape?]) (by grind)
   grind
  ·refine .inl ⟨w.heap.size,hm,cs,e,hnewblk,?_,fun r j hr' hj=>?_⟩
   ·refine ⟨?_,fun t h=>⟨(Rep.appT_ty h).2.2.2,(Rep.appT_ty h).1,fun hs=>by have:1<inf.size:=hs;have:=(Rep.appT_ty h).2.1;omega⟩⟩
    grind
   ·have hr'':r<n+m:=hr'
    have hj':j<inf.size:=hj
    have hlt:r*inf.size+j<(n+m)*inf.size:=by
     have:=Nat.mul_le_mul_right inf.size (show r+1≤n+m by omega)
     grind
    show ∃ v,cs[r*inf.size+j]? = some v∧Rel β' _ ((Rep.appT inf.size e n m ff gg) r j) v∧v.oneCell'=true
    rw [hget _ hlt]
    cases hb:Nat.blt r n with
    | true =>
     rw [Nat.blt_eq] at hb
     obtain ⟨u,hu1,hu2,hu3⟩:=hold r j hb hj'
     have hlt':r*inf.size+j<olds.length:=(List.getElem?_eq_some_iff.1 hu1).1
     exact ⟨u,by grind,Rep.appT_old hb hj' (hu2.keep hk'),hu3⟩
    | false =>
     have hb':n≤r:=by grind [Nat.lt_or_ge,h,Nat.blt_eq]
     obtain ⟨u,hu1,hu2,hu3⟩:=hnews (r - n) j (by omega) hj'
     have e1:r*inf.size+j - olds.length=(r - n)*inf.size+j:=by
      rw [hol,Nat.sub_mul]
      have:=Nat.mul_le_mul_right inf.size hb'
      omega
     have hge':olds.length≤r*inf.size+j:=by
      rw [hol]
      have:=Nat.mul_le_mul_right inf.size hb'
      omega
     exact ⟨u,by grind,Rep.appT_new hb' hr'' hj' (hu2.keep hk'),hu3⟩
 rcases dst_ok hH hx hdst with ⟨rfl,⟨ad,hxe⟩,_⟩|⟨id,b,cap,cs,el,nn,mu,sz,rfl,hxe,hbk,hn,hcap,hheap,rfl,hcs,hcty,hold⟩
 ·-- an empty slice without room
  rcases Nat.eq_zero_or_pos m with rfl|hm
  ·have hnil:news=[]:=List.eq_nil_of_length_eq_zero (by omega)
   subst hnil
   have hr:=run_append_nothing (P:=K.P) w t t2 ty e inf hu hi ad 0 0 (Nat.le_refl _) (a.eval yo) hSrc
   rw [← hxe] at hr
   refine ⟨_,_,hexec _ _ hr,?_⟩
   rw [hxe]
   exact hs.moved (own:=.empty) hp hE hgt hkills (fun b n mu h=>by cases h) rfl rfl rfl (Nat.le_refl _) (fun _ _ _=>rfl) (fun _ _=>rfl) (fun β' hm hk'=>⟨.osl0 (by grind),.inr ⟨hm,rfl⟩⟩)
  ·refine grown ad 0 [] hxe (by omega) (by simp) ?_ (fun r j h=>absurd h (by omega))
   cases ad<;>grind [run_firstCells_none,run_firstCells_some]
 ·have holdl:∀ r j,r<n→j<inf.size→cs.getD (r*inf.size+j) undef=(cs.getD (r*inf.size+j) undef)∧cs[r*inf.size+j]? = some (cs.getD (r*inf.size+j) undef):=fun r j hr' hj=>by
   obtain ⟨u,hu1,_⟩:=hold r j hr' hj
   simp [Array.getD_eq_getD_getElem?,hu1]
  by_cases hroom:n+m≤cap
  ·-- in place
   have hmu:mu=true:=((hkills id (List.mem_singleton.2 rfl)).2 b nn mu hbk).1
   subst hmu
   have hfit:n*inf.size+0+news.length≤cs.size:=by
    have:=Nat.mul_le_mul_right inf.size hroom
    grind
   obtain ⟨w',hrun,hwr⟩:=storeCells_ok (P:=K.P) (off:=n*inf.size) news 0 w cs hheap hfit hSrc.one
   have hr:=append_room (P:=K.P) (t:=t) (tx:=t2) (ty:=ty) hu hi (b:=b) (sLen:=n) (sCap:=cap) hSrc hroom hrun
   rw [← hxe] at hr
   have hset:=foldl_set news 0 (n*inf.size) cs
   have hshape:=hwr.shape hheap (hset 0).1
   refine ⟨_,_,hexec _ _ hr,?_⟩
   refine hs.moved (own:=.lives b (n+m) true) hp hE hgt hkills (fun b' n' mu' hb=>?_) hwr.os hwr.tape hwr.output (by rw [hwr.size];omega) (fun k _ hk'=>hwr.other k (fun e=>?_)) (fun k _=>hshape k) (fun β' hm hk'=>⟨?_,?_⟩)
   ·cases hb
    exact ⟨by rw [hwr.size];grind,.inr ⟨id,List.mem_singleton.2 rfl,_,_,hbk⟩⟩
   ·grind
   ·have:=Rel.osl (β:=β') (w:=w') (id:=c+8*i) (es:=inf.size) (i:=0) (len:=n+m) (cap:=cap) (sz:=cs.size) (el:=el) hm (by omega) hroom (by grind [World.shape?]) (by grind)
    grind
   ·refine .inl ⟨b,hm,_,el,hwr.at_,?_,fun r j hr' hj=>?_⟩
    ·refine ⟨?_,fun t h=>⟨(Rep.appT_ty h).2.2.2,hcty t (Rep.appT_ty h).2.2.1,fun hs=>by grind [Rep.appT_ty,h]⟩⟩
     show (n+m)*inf.size≤_
     rw [(hset 0).1]
     grind
    ·have hr'':r<n+m:=hr'
     have hj':j<inf.size:=hj
     have hlt:r*inf.size+j<(n+m)*inf.size:=by
      have:=Nat.mul_le_mul_right inf.size (show r+1≤n+m by omega)
      grind
     have hltc:r*inf.size+j<cs.size:=by grind
     show ∃ v,_[r*inf.size+j]? = some v∧Rel β' _ ((Rep.appT inf.size e n m ff gg) r j) v∧v.oneCell'=true
     rw [(hset (r*inf.size+j)).2]
     cases hb:Nat.blt r n with
     | true =>
      rw [Nat.blt_eq] at hb
      have:r*inf.size+j<n*inf.size:=by
       have:=Nat.mul_le_mul_right inf.size (show r+1≤n by omega)
       grind
      rw [if_neg (by omega)]
      obtain ⟨u,hu1,hu2,hu3⟩:=hold r j hb hj'
      exact ⟨u,hu1,Rep.appT_old hb hj' (hu2.keep hk'),hu3⟩
     | false =>
      have hb':n≤r:=by grind [Nat.lt_or_ge,h,Nat.blt_eq]
      have hnr:=Nat.mul_le_mul_right inf.size hb'
      have e2:(n+m)*inf.size=n*inf.size+m*inf.size:=Nat.add_mul ..
      rw [if_pos ⟨by omega,by omega,hltc⟩]
      obtain ⟨u,hu1,hu2,hu3⟩:=hnews (r - n) j (by omega) hj'
      have e1:r*inf.size+j - (n*inf.size+0)=(r - n)*inf.size+j:=by
       rw [Nat.sub_mul];omega
      exact ⟨u,by grind,Rep.appT_new hb' hr'' hj' (hu2.keep hk'),hu3⟩
  ·-- a new block
   refine grown (some ⟨b,0,none⟩) cap (rowsL n inf.size fun r j=>cs.getD (r*inf.size+j) undef) hxe (by omega) (rowsL_length ..) ?_ (fun r j hr' hj=>?_)
   ·refine run_firstCells_some w.drew inf.size n ⟨b,0,none⟩ n cap _ (rowsL_length ..) (fun k u hu'=>?_)
    obtain ⟨r,j,hr',hj,rfl,rfl⟩:=rowsL_mem hu'
    have:=(holdl r j hr' hj).2
    have hd:w.drew.heap[b]? = some (.cells cs el (0,0)):=hheap
    rw [add_mk]
    unfold World.cell?
    grind
   grind [rowsL_get,Array.getD_eq_getD_getElem?]
theorem RSim.appendedZ {ρ:Operand→AV} {q:Prop} {v:AV} {ids:List Nat} {x:Ob} (hs:RSim K ops c E β s a w) (hp:Pre K ops s i o) (hE:E i) (hg:o.guard=none) (hρ:∀ x,x∈o.op.operands→Rel β w (ρ x) (a.eval x))
  (h:zstep K.P ρ (c+8*i) o.op=some (q,v,ids,x)) (hq:q) :
  ∃ u w',(execOp a.eval o).run K.P w=.ok (.value u) w'∧∃ β',RSim K ops c (less E i) β' (s.app i o ⟨v,true,[],(c+8*i,some x)::ids.map (fun id=>(id,none)),[]⟩) (a.put o.dst u) w':=by
 have hgt:s.G o.guard=true:=by rw [hg];rfl
 obtain ⟨dst,op,ty,pos,after,g⟩:=o
 cases op<;>simp only [zstep,reduceCtorEq] at h
 rename_i cl
 obtain ⟨callee,args,ts⟩:=cl
 cases callee<;>first|(cases h;done)|skip
 rename_i bi
 cases bi<;>first|(cases h;done)|skip
 obtain ⟨args⟩:=args
 obtain ⟨ts⟩:=ts
 simp only at h
 split at h
 rotate_left
 ·cases h
 rename_i xo yo t t2
 split at h
 rotate_left
 ·cases h
 rename_i e kn kq k hu hu2 h1 h2
 split at h
 rotate_left
 ·cases h
 rename_i inf hi
 split at h
 rotate_left
 ·cases h
 rename_i z hz
 replace h:=bif_some h
 obtain ⟨hc,h⟩:=h
 simp only [Bool.and_eq_true,Nat.blt_eq] at hc
 obtain ⟨hsz,hby,hzl,hall⟩:=hc
 have hzl:=Nat.eq_of_beq_eq_true hzl
 rw [zcells_length] at hzl
 simp only [Option.some.injEq,Prod.mk.injEq] at h
 obtain ⟨rfl,rfl,rfl,rfl⟩:=h
 obtain ⟨hk0,hk1⟩:=hq
 have hx:=hρ xo (by simp [Op.operands,Call.operands])
 have hy:=hρ yo (by simp [Op.operands,Call.operands])
 rw [h1] at hx
 rw [h2] at hy
 have hxe:a.eval xo=.slice none 0 0:=by cases hsx:a.eval xo<;>rw [hsx] at hx<;>cases hx;rfl
 have hye:=rel_int_inv hy
 obtain ⟨m,rfl⟩:∃ m:Nat,k=m:=⟨k.toNat,by omega⟩
 have hm0:0<m:=by omega
 have hmb:m*inf.bytes≤140737488355328:=by omega
 have hm1:m≤140737488355328:=by
  have:=Nat.mul_le_mul_left m (show 1≤inf.bytes by omega)
  omega
 have hr:=Lib.run_append_grow_zeros (P:=K.P) w t t2 ty e inf z kq kn hu hu2 hi hz none 0 0 [] (run_firstCells_none w.drew inf.size 0 0 0) m hm0 hsz (by omega) (by omega) (by omega) (growslice_fits (by omega) (by grind))
 rw [← hxe,← hye] at hr
 rw [Nat.zero_add] at hr
 rw [Int.toNat_natCast]
 have hge:=grownCap_ge w m 0 e
 generalize hcs:(([]:List Value).toArray++Builtin.zeroCells z.cells m++Builtin.zeroCells z.cells (grownCap w m 0 e - m))=cs at hr
 have hcsz:cs.size=grownCap w m 0 e*inf.size:=by
  rw [← hcs]
  simp only [Array.size_append,List.size_toArray,List.length_nil,size_zeroCells,hzl,Nat.zero_add,← Nat.add_mul]
  grind
 have hget:∀ k,k<m*inf.size→cs[k]? = (Builtin.zeroCells z.cells m)[k]? := by grind [Array.getElem?_append_left,size_zeroCells]
 have hexec:(execOp a.eval ⟨dst,.call ⟨.builtin .append,⟨[xo,yo]⟩,⟨[t,t2]⟩⟩,ty,pos,after,g⟩).run K.P w=.ok (.value (.slice (some ⟨w.heap.size,0,none⟩) m (grownCap w m 0 e))) (w.drew.alloc (.cells cs e)):=by
  simp [execOp,resolve,invoke,builtin,hr,Result.andThen]
 refine ⟨_,_,hexec,?_⟩
 have hnewblk:(w.drew.alloc (.cells cs e)).heap[w.heap.size]? = some (.cells cs e (0,0)):=heap_alloc_new w.drew _
 refine hs.moved (own:=.lives w.heap.size m true) (kills:=[]) hp hE hgt (fun id h=>by cases h) (fun b n' mu' hb=>?_) rfl rfl rfl ?_ (fun k hk' _=>Below.heap_alloc w.drew _ k hk') (fun k hk'=>shape_of_block (Below.heap_alloc w.drew _ k hk')) (fun β' hm hk'=>⟨?_,?_⟩)
 ·grind
 ·simp
 ·have:=Rel.osl (β:=β') (w:=w.drew.alloc (.cells cs e)) (id:=c+8*i) (es:=inf.size) (i:=0) (len:=m) (cap:=grownCap w m 0 e) (sz:=cs.size) (el:=e) hm (by omega) hge (by grind [World.shape?]) (by grind)
  grind
 ·refine .inl ⟨w.heap.size,hm,cs,e,hnewblk,?_,fun r j hr' hj=>?_⟩
  ·refine ⟨?_,fun t h=>by grind [madeRep_ty,h]⟩
   simp_all [Nat.mul_le_mul_right]
  ·have hr'':r<m:=hr'
   have hj':j<inf.size:=hj
   have hlt:r*inf.size+j<m*inf.size:=by
    have:=Nat.mul_le_mul_right inf.size (show r+1≤m by omega)
    grind
   have hjz:j<z.cells.size:=by omega
   have hjl:j<(zcells z).length:=by simp_all
   have hrr:Rel β' (w.drew.alloc (.cells cs e)) (atL (zcells z) j) z.cells[j]:=by grind [rel_zcells,atL]
   have hval:(Builtin.zeroCells z.cells m)[r*inf.size+j]? = some z.cells[j]:=by simp_all [Builtin.zeroCells,Option.some.injEq,Nat.add_comm,Nat.add_mul_mod_self_right,Nat.mod_eq_of_lt,getElem!_pos]
   grind [madeRep_rel,one_cell,atL,zcells,List.all_eq_true,List.getElem_mem]
theorem freeze_heap (w:World) (b off n:Nat) (hn:n≠0) (k:Nat) (hk:k≠b):(w.freeze ⟨b,off,none⟩ n).heap[k]? = w.heap[k]? := by
 unfold World.freeze
 rw [if_neg hn]
 simp [Array.getElem?_modify,Ne.symm hk]
theorem freeze_at (w:World) (b off n:Nat) (hn:n≠0) {cs:Array Value} {el:TypeId} (h:w.heap[b]? = some (.cells cs el (0,0))):(w.freeze ⟨b,off,none⟩ n).heap[b]? = some (.cells cs el (off,off+n)):=by
 unfold World.freeze
 rw [if_neg hn]
 simp [Array.getElem?_modify,h]
theorem RSim.marked {ρ:Operand→AV} {f:Foot} {q:Prop} {v:AV} {ids:List Nat} {x:Ob} (hs:RSim K ops c E β s a w) (hp:Pre K ops s i o) (hE:E i) (hg:o.guard=none) (hρ:∀ x,x∈o.op.operands→Rel β w (ρ x) (a.eval x))
  (hmt:∀ id,id∈ids→(s.H id).map Ob.mu=some true∧s.ht id=none) (h:cvstep K.P ρ (vH f s.H) o.op=some (q,v,ids,x)) :
  ∃ u w',(execOp a.eval o).run K.P w=.ok (.value u) w'∧∃ β',RSim K ops c (less E i) β' (s.app i o ⟨v,true,[],(c+8*i,some x)::ids.map (fun id=>(id,none)),[]⟩) (a.put o.dst u) w':=by
 have hH:=hs.ok f
 have hgt:s.G o.guard=true:=by rw [hg];rfl
 obtain ⟨dst,op,ty,pos,after,g⟩:=o
 cases op<;>simp only [cvstep,reduceCtorEq] at h
 rename_i t d ax
 have htd:=Nat.eq_of_beq_eq_true (bif_some h).1
 replace h:=(bif_some h).2
 subst htd
 split at h
 rotate_left
 ·cases h
 rename_i e id es ii n hu hav
 split at h
 rotate_left
 ·cases h
 rename_i ob he ho
 have hc:=(bif_some h).1
 replace h:=(bif_some h).2
 simp only [Bool.and_eq_true,Nat.blt_eq] at hc
 obtain ⟨hes,hoe,hn0,hall⟩:=hc
 have hes:=Nat.eq_of_beq_eq_true hes
 have hoe:=Nat.eq_of_beq_eq_true hoe
 subst hes
 simp only [Option.some.injEq,Prod.mk.injEq] at h
 obtain ⟨_,rfl,rfl,rfl⟩:=h
 have hx:=hρ ax (by simp [Op.operands])
 rw [hav] at hx
 obtain ⟨hm1,hm2⟩:=hmt id (List.mem_singleton.2 rfl)
 have hmu:∀ b n mu,β.m id=some (.lives b n mu)→mu=true:=fun b n' mu hb=>by
  cases hso:s.H id with
  | none=>simp [hso] at hm1
  | some ob' =>
   simp only [hso,Option.map_some,Option.some.injEq] at hm1
   rcases hs.h.heap id ob' hso (by rw [hm2];rfl) with ⟨b',g1,_⟩|⟨g1,_⟩
   ·rw [g1,hm1] at hb;cases hb;rfl
   ·rw [g1] at hb;cases hb
 generalize hax:a.eval ax=y at hx
 cases hx with
 | osl0=>omega
 | oslD hd=>exact (hH.dead ho hd).elim
 | @osl _ _ _ _ b nn cap sz mu el hb hn hcap hsh hsz =>
  have:=hmu b nn mu hb
  subst this
  obtain ⟨rfl,_,cs,el',hcs,hszk,hcell⟩:=hH.lives ho hb
  have hsh2:w.shape? b=some (el',cs.size):=by unfold World.shape?;rw [hcs]
  have hlive:=(hs.h.live id b _ _ hb)
  have hrun:(execOp a.eval ⟨dst,.convert t t ax,ty,pos,after,g⟩).run K.P w=.ok (.value (.slice (some ⟨b,ii*1,none⟩) n cap)) (w.freeze ⟨b,cs.size,none⟩ 1):=by
   simp [execOp,hax,convert,run_underlying hu,run_underlying he,markStringish,hsh2]
  refine ⟨_,_,hrun,?_⟩
  have hb':=freeze_at w b cs.size 1 (by decide) hcs
  refine hs.moved2 (own:=.empty) (kills:=[id]) hp hE hgt (fun id' hid=>?_) (fun b n' mu' hb=>by cases hb) ?_ ?_ ?_ ?_ (fun k hk' hno=>freeze_heap w b _ 1 (by decide) k (fun e=>hno id (List.mem_singleton.2 rfl) _ _ (e▸hb))) (fun k hk'=>?_) (fun β' hm hk' hdead hold hF=>⟨?_,.inr ⟨hm,rfl⟩⟩)
  ·obtain rfl:=List.mem_singleton.1 hid
   refine ⟨by rw [hb];simp,fun b2 n2 mu2 h2=>?_⟩
   rw [hb] at h2;cases h2
   exact ⟨rfl,_,hcs,rfl⟩
  ·unfold World.freeze;rw [if_neg (by decide)]
  ·unfold World.freeze;rw [if_neg (by decide)]
  ·unfold World.freeze;rw [if_neg (by decide)]
  ·unfold World.freeze;rw [if_neg (by decide)];simp
  ·by_cases e:k=b
   ·subst e
    unfold World.shape?
    rw [hb',hcs]
   ·unfold World.shape?
    rw [freeze_heap w b _ 1 (by decide) k e]
  ·have hfree:β'.free b:=by
    refine ⟨?_,fun id' n' hl=>?_⟩
    ·rw [hF,hs.h.bF]
     intro hFb
     obtain ⟨g1,g2⟩:=hs.h.hF b hFb
     rcases hlive.1 with h|h
     ·omega
     ·exact g2 h
    ·by_cases e1:id'=id
     ·subst e1;rw [hdead id' (List.mem_singleton.2 rfl)] at hl;cases hl
     ·by_cases e2:id'=c+8*i
      ·subst e2;rw [hm] at hl;cases hl
      ·rw [hold id' e2 (by simp [e1])] at hl
       exact e1 (hs.h.inj id' id b _ _ _ _ hl hb)
   have hval:∀ r,r<n→∃ z,ob.f (ii+r) 0=.int .u8 z∧cs[ii+r]? = some (.int .u8 z):=fun r hr=>by
    have h1:=List.all_eq_true.1 hall r (List.mem_range.2 hr)
    unfold isIntK at h1
    split at h1
    ·rename_i k z hz
     rw [of_decide_eq_true h1] at hz
     obtain ⟨vv,j1,j2,_⟩:=hcell (ii+r) 0 (by omega) (by omega)
     rw [hz] at j2
     rw [rel_int_inv j2,hoe] at j1
     refine ⟨z,hz,?_⟩
     simpa using j1
    ·cases h1
   refine .isl (fun r _=>.int .u8 (intOfAV (ob.f (ii+r) 0))) (by omega) hcap hfree (fun r j hr hj=>?_) (fun _ _ _ _=>rfl) (fun _ _ _ _=>.int) (fun _ _ _ _=>.int)
   obtain rfl:j=0:=by omega
   obtain ⟨z,hz,hcz⟩:=hval r hr
   unfold World.cell?
   rw [hb']
   have e3:ii*1+r*1+0=ii+r:=by omega
   simp only [e3,hz,intOfAV]
   simpa using hcz
theorem RSim.appended {ρ:Operand→AV} {f:Foot} {q:Prop} {v:AV} {ids:List Nat} {x:Ob} (hs:RSim K ops c E β s a w) (hp:Pre K ops s i o) (hE:E i) (hg:o.guard=none) (hρ:∀ x,x∈o.op.operands→Rel β w (ρ x) (a.eval x))
  (hmt:∀ id,id∈ids→(s.H id).map Ob.mu=some true∧s.ht id=none) (h:astep K.P ρ (vH f s.H) (c+8*i) o.op=some (q,v,ids,x)) (hq:q) :
  ∃ u w',(execOp a.eval o).run K.P w=.ok (.value u) w'∧∃ β',RSim K ops c (less E i) β' (s.app i o ⟨v,true,[],(c+8*i,some x)::ids.map (fun id=>(id,none)),[]⟩) (a.put o.dst u) w':=by
 unfold astep at h
 cases h0:astep0 K.P ρ (vH f s.H) (c+8*i) o.op with
 | some r=>rw [h0] at h;exact hs.appended0 hp hE hg hρ hmt (h0.trans h) hq
 | none =>
  rw [h0] at h
  simp only at h
  cases h1:zstep K.P ρ (c+8*i) o.op with
  | some r=>rw [h1] at h;exact hs.appendedZ hp hE hg hρ (h1.trans h) hq
  | none=>rw [h1] at h;exact hs.marked hp hE hg hρ hmt h
end
def posIn:List Nat→Nat→Nat→Option Nat
 | [],_,_=>none
 | g::l,k,id=>bif Nat.beq g id then some k else posIn l (k+1) id
theorem posIn_some {l:List Nat} {k id p:Nat} (h:posIn l k id=some p):k≤p∧l[p - k]? = some id:=by
 induction l generalizing k with
 | nil=>cases h
 | cons g l ih =>
  simp only [posIn] at h
  cases hb:Nat.beq g id with
  | true =>
   simp_all
  | false =>
   grind
def nodupB:List Nat→Bool
 | []=>true
 | g::l => !memN l g&&nodupB l
theorem nodupB_spec {l:List Nat} (h:nodupB l=true):∀ (p q:Nat) x,l[p]? = some x→l[q]? = some x→p=q:=by
 induction l with
 | nil=>simp
 | cons g l ih =>
  rw [nodupB,Bool.and_eq_true] at h
  grind [not_true,memN_iff,absurd,List.mem_of_getElem?]
def restH (gids:List Nat) (H:Heap):Heap:=fun id=>bif memN gids id then none else H id
def givenObs (gids:List Nat) (H:Heap):List Ob:=gids.map fun id=>match H id with
 | some o=>mapO (posIn gids 0) (restH gids H) o
 | none=>⟨0,0,true,.lst []⟩
def backId (gids:List Nat) (nid k:Nat):Nat:=match gids[k]? with
 | some id=>id
 | none=>nid+(k - gids.length)
def backIds (gids:List Nat) (nid:Nat):Nat→Option Nat:=fun k=>bif Nat.blt k (gids.length+8) then some (backId gids nid k) else none
def noH:Heap:=fun _=>none
def givenDs (gids:List Nat) (nid:Nat) (obs':List (Option Ob)):List (Nat×Option Ob) :=
 (List.range obs'.length).map fun k=>(backId gids nid k,(obs'.getD k none).map (mapO (backIds gids nid) noH))
theorem look_range {α:Type} (id:Nat→Nat) (x:Nat→α) (n:Nat):∀ j,(look ((List.range n).map fun k=>(id k,x k)) j=none∧∀ k,k<n→id k≠j)∨(∃ k,k<n∧id k=j∧look ((List.range n).map fun k=>(id k,x k)) j=some (x k)):=by
 have key:∀ (l:List Nat) j,(look (l.map fun k=>(id k,x k)) j=none∧∀ k,k∈l→id k≠j)∨(∃ k,k∈l∧id k=j∧look (l.map fun k=>(id k,x k)) j=some (x k)):=by
  intro l j
  induction l with
  | nil=>exact .inl ⟨rfl,fun k h=>by cases h⟩
  | cons y l ih =>
   rw [List.map_cons,look_cons]
   grind
 grind
section
variable {K : Ctx} {ops : Array Oper} {c : Nat} {E : Nat → Prop} {β : Book} {s : RSt} {a : Act} {w : World} {i : Nat} {o : Oper}
theorem RSim.given {f:Foot} {fn:FuncId} {avs:List AV} {vs:Array Value} {gids zids:List Nat} {r:AV} {obs':List (Option Ob)} {Q:World→Value→Prop} (hs:RSim K ops c E β s a w) (hp:Pre K ops s i o) (hE:E i) (hgt:s.G o.guard=true)
  (hrel:Rels β w avs vs) (hnd:nodupB gids=true) (hgm:∀ id,id∈gids→memN f.rd id=true∧(s.H id).map Ob.mu=some true∧s.ht id=none)
  (hz:∀ id,vH f s.H id≠none→memN gids id=false→memN zids id=true) (hl:gids.length≤obs'.length∧obs'.length≤gids.length+8)
  (hG:Gives K.P K.gl fn (givenObs gids (vH f s.H)) (avs.map (mapA (posIn gids 0) 9 (restH gids (vH f s.H)))) r obs')
  (hQ:∀ u w' β',RSim K ops c (less E i) β' (s.app i o ⟨mapA (backIds gids (c+8*i)) 9 noH r,true,[],givenDs gids (c+8*i) obs',zids⟩) (a.put o.dst u) w'→Q w' u) :
  Calls K.P fn vs w fun e w'=>∃ u,e=.returned u∧Q w' u:=by
 have hH:=hs.ok f
 have hgiv:∀ id,id∈gids→∃ ob,vH f s.H id=some ob∧Holds β w ob id∧ob.mu=true:=by
  intro id hid
  obtain ⟨h1,h2,h3⟩:=hgm id hid
  cases ho:s.H id with
  | none=>grind
  | some ob =>
   simp only [ho,Option.map_some,Option.some.injEq] at h2
   have e:ob.seen=ob:=by cases ob<;>grind [Ob.seen]
   exact ⟨ob,by grind [vH],hs.h.heap id ob ho (by rw [h3];rfl),h2⟩
 have hgl:∀ id,id∈gids→β.m id≠none∧∀ b n mu,β.m id=some (.lives b n mu)→mu=true:=by
  intro id hid
  obtain ⟨ob,_,h1,h2⟩:=hgiv id hid
  rcases h1 with ⟨b,g1,_⟩|⟨g1,_⟩
  ·grind
  grind
 have hnew:∀ q,q<8→β.m (c+8*i+q)=none:=fun q hq=>hs.h.freshE i q hE hq
 have hnd':=nodupB_spec hnd
 let βz:=frzB zids β
 let bm:Nat→Option Own:=fun k=>match gids[k]? with|some id=>β.m id|none=>none
 let F':Nat→Prop:=fun b=>¬βz.free b∧¬∃ k n mu,bm k=some (.lives b n mu)
 let βc:Book:=⟨bm,F'⟩
 have bm_some:∀ {k o},bm k=some o→∃ id,gids[k]? = some id∧β.m id=some o:=by grind
 have bm_at:∀ {k id},gids[k]? = some id→bm k=β.m id:=fun {k id} h=>by grind
 have zfree:∀ b,β.free b→βz.free b:=by
  intro b hf
  refine ⟨hf.1,fun id n h=>?_⟩
  obtain ⟨mu',h1,h2⟩:=frzB_inv h
  have:mu'=true:=by grind
  subst this
  exact hf.2 id n h1
 have ownF:∀ id b n mu,β.m id=some (.lives b n mu)→¬β.F b:=by
  intro id b n mu hm hF
  rw [hs.h.bF] at hF
  obtain ⟨h1,h2⟩:=hs.h.hF b hF
  rcases (hs.h.live id b n mu hm).1 with h|h
  ·omega
  grind
 have h1:∀ id k,posIn gids 0 id=some k→βc.m k=β.m id:=fun id k h=>by
  obtain ⟨_,h2⟩:=posIn_some h
  grind
 have h2:∀ b,β.free b→βc.free b:=by
  intro b hf
  refine ⟨fun hF=>hF.1 (zfree b hf),fun k n h=>?_⟩
  obtain ⟨id,_,hm⟩:=bm_some h
  exact hf.2 id n hm
 have h3:∀ id ob b n mu,restH gids (vH f s.H) id=some ob→β.m id=some (.lives b n mu)→βc.free b:=by
  intro id ob b n mu ho hm
  unfold restH at ho
  cases hmem:memN gids id with
  | true=>grind
  | false =>
   simp only [hmem,cond_false] at ho
   have hzi:=hz id (by grind) hmem
   have hngid:id∉gids:=fun h=>by grind [memN_iff,h]
   have hzf:βz.free b:=by
    refine ⟨ownF id b n mu hm,fun id' n' h'=>?_⟩
    obtain ⟨mu',g1,g2⟩:=frzB_inv h'
    have:=hs.h.inj id' id b n' n mu' mu g1 hm
    grind
   refine ⟨fun hF=>hF.1 hzf,fun k n' h=>?_⟩
   obtain ⟨id',hk,hm'⟩:=bm_some h
   have:=hs.h.inj id' id b n' n _ mu hm' hm
   grind
 have hHr:HeapOk β w (restH gids (vH f s.H)):=by
  intro id ob hid hne
  unfold restH at hid
  cases hmem:memN gids id with
  | true=>grind
  | false=>simp only [hmem,cond_false] at hid;exact hH id ob hid hne
 have hGiven:Given βc w (givenObs gids (vH f s.H)):=by
  refine ⟨fun k ob hk=>?_,fun k hk=>?_,fun p q b n n' mu mu' e1 e2=>?_,fun k b n mu h=>?_⟩
  ·unfold givenObs at hk
   rw [List.getElem?_map] at hk
   cases hgk:gids[k]? with
   | none=>grind
   | some id =>
    simp only [hgk,Option.map_some,Option.some.injEq] at hk
    grind [id,List.mem_of_getElem?,mapO_holds,h]
  ·grind [List.getElem?_eq_none,givenObs]
  ·obtain ⟨x,g1,g2⟩:=bm_some e1
   obtain ⟨y,g3,g4⟩:=bm_some e2
   have:=hs.h.inj x y b n n' mu mu' g2 g4
   grind
  ·obtain ⟨id,g1,g2⟩:=bm_some h
   exact ⟨(hs.h.live id b n mu g2).2,fun hF=>hF.2 ⟨k,n,mu,h⟩⟩
 have hF'lt:∀ b,βc.F b→b<w.heap.size:=by
  intro b hb
  apply Classical.byContradiction
  intro hge
  apply hb.1
  refine ⟨fun hF=>?_,fun id n h=>?_⟩
  ·have hF':β.F b:=hF
   rw [hs.h.bF] at hF'
   have:=(hs.h.hF b hF').1
   have:=hs.h.hB
   omega
  ·obtain ⟨mu',g1,_⟩:=frzB_inv h
   have:=(hs.h.live id b n _ g1).2
   omega
 have hglob:GlobB K.gl βc w:=fun g m h hgl'=>(hs.h.glob g m h hgl').rebook h2 (by
  obtain ⟨_,_,_,_,_,_,_,_,hcl,_⟩:=rel_ipt_inv (hs.h.glob g m h hgl').rel
  exact .ipt hcl)
 have hargs:Rels βc w (avs.map (mapA (posIn gids 0) 9 (restH gids (vH f s.H)))) vs:=by
  obtain ⟨e1,e2⟩:=rels_map hrel.len hrel.rel (fun u v hr=>mapA_rel hHr (fun id k h _=>h1 id k h) h2 h3 9 u v hr)
  exact ⟨e1,e2⟩
 refine (hG.2 βc w vs hF'lt hGiven hglob hargs).mono fun e w' hh=>?_
 obtain ⟨u,β',he,hkept,hA,hr⟩:=hh
 refine ⟨u,he,?_⟩
 let σ:=backId gids (c+8*i)
 have σ_lt:∀ {k id},gids[k]? = some id→σ k=id:=fun {k id} h=>by grind [backId,h]
 have σ_ge:∀ {k},gids.length≤k→σ k=c+8*i+(k - gids.length):=fun {k} h=>by grind [backId,List.getElem?_eq_none,h]
 have σ_cases:∀ k,(∃ id,gids[k]? = some id∧σ k=id)∨(gids.length≤k∧σ k=c+8*i+(k - gids.length)):=by grind
 have σ_inj:∀ p q,p<gids.length+8→q<gids.length+8→σ p=σ q→p=q:=by grind
 let β3:Book:=⟨fun id=>if h:∃ k,k<gids.length+8∧σ k=id then β'.m h.choose else βz.m id,β.F⟩
 have m3:∀ k,k<gids.length+8→β3.m (σ k)=β'.m k:=by
  intro k hk
  have hex:∃ q,q<gids.length+8∧σ q=σ k:=⟨k,hk,rfl⟩
  grind
 have m3':∀ id,(¬∃ k,k<gids.length+8∧σ k=id)→β3.m id=βz.m id:=fun id h=>by grind
 have split3:∀ id,(∃ k,k<gids.length+8∧id=σ k∧β3.m id=β'.m k)∨((∀ k,k<gids.length+8→σ k≠id)∧β3.m id=βz.m id):=by
  intro id
  by_cases h:∃ k,k<gids.length+8∧σ k=id
  ·grind
  grind
 have notGid:∀ id,(∀ k,k<gids.length+8→σ k≠id)→id∉gids:=by
  intro id h hm
  obtain ⟨k,hk,e⟩:=List.getElem_of_mem hm
  exact h k (by omega) (σ_lt (by grind))
 have blk:∀ b,BlkOf βc b→∃ id n,id∈gids∧β.m id=some (.lives b n true):=by
  rintro b ⟨k,n,mu,hm⟩
  grind
 have hk:Keeps β w β3 w':=by
  refine ⟨fun id o' ho=>?_,fun b hlt hf=>hkept.block b hlt (fun hb=>?_),fun b hlt hf=>⟨hf.1,fun id n h=>?_⟩,fun b e z hbs=>?_⟩
  ·rcases split3 id with ⟨k,hk8,e,em⟩|⟨hno,em⟩
   ·rcases σ_cases k with ⟨x,hx,ex⟩|⟨hx,ex⟩
    ·have:id=x:=by omega
     subst this
     obtain ⟨o2,g1,g2⟩:=hA.later k o' (by grind)
     grind
    grind
   ·rw [em]
    exact (frzB_keeps (w:=w) zids).ids id o' ho
  ·obtain ⟨id,n,_,hm⟩:=blk b hb
   exact hf.2 id n hm
  ·rcases split3 id with ⟨k,hk8,e,em⟩|⟨hno,em⟩
   ·rw [em] at h
    obtain ⟨_,g|g⟩:=hA.live k b n true h
    ·omega
    ·obtain ⟨id',n',_,hm⟩:=blk b g
     exact hf.2 id' n' hm
   ·rw [em] at h
    exact (zfree b hf).2 id n h
  ·rw [hkept.shape b (lt_of_shape hbs)];omega
 have f3:∀ b,β'.free b→β3.free b:=by
  intro b hf
  have hcase:βz.free b∨BlkOf βc b:=by
   have hnF:¬F' b:=by have:=hf.1;rw [hA.F] at this;omega
   by_cases hz1:βz.free b
   ·grind
   ·by_cases hz2:∃ k n mu,bm k=some (.lives b n mu)
    ·exact .inr hz2
    grind
  refine ⟨?_,fun id n h=>?_⟩
  ·rcases hcase with h|h
   ·exact h.1
   grind
  ·rcases split3 id with ⟨k,hk8,e,em⟩|⟨hno,em⟩
   ·rw [em] at h;exact hf.2 k n h
   ·rw [em] at h
    rcases hcase with h'|h'
    ·exact h'.2 id n h
    ·obtain ⟨id',n',hid',hm⟩:=blk b h'
     obtain ⟨mu',g1,_⟩:=frzB_inv h
     have:=hs.h.inj id id' b _ _ _ _ g1 hm
     grind
 have hHn:HeapOk β' w' noH:=fun id ob h=>by cases h
 have h1':∀ k id,backIds gids (c+8*i) k=some id→β3.m id=β'.m k:=by
  intro k id h
  unfold backIds at h
  cases hb:Nat.blt k (gids.length+8) with
  | false=>grind
  | true =>
   simp only [hb,cond_true,Option.some.injEq] at h
   rw [Nat.blt_eq] at hb
   rw [← h]
   grind
 have h3':∀ (id:Nat) (ob:Ob) b n mu,noH id=some ob→β'.m id=some (.lives b n mu)→β3.free b:=fun id ob b n mu h=>by cases h
 have hlook:∀ j,(look (givenDs gids (c+8*i) obs') j=none∧∀ k,k<obs'.length→σ k≠j)∨(∃ k,k<obs'.length∧σ k=j∧look (givenDs gids (c+8*i) obs') j=some ((obs'.getD k none).map (mapO (backIds gids (c+8*i)) noH))) :=
  look_range σ (fun k=>(obs'.getD k none).map (mapO (backIds gids (c+8*i)) noH)) obs'.length
 have hkept':Kept K.B K.G w w':=hkept.mono hs.h.hB (fun k hkB hb=>by
  obtain ⟨id,n,_,hm⟩:=blk k hb
  rcases (hs.h.live id k n true hm).1 with h|h
  ·omega
  omega)
 refine hQ u w' β3 (hs.step hp hE hgt hk hkept' rfl (fun id ob h=>⟨fun _=>?_,fun h=>by cases h⟩) (fun id o' hl' ho hgi=>?_) (fun id o' hl' ho h=>?_) ?_ (fun id h=>?_) (fun id b n mu h=>?_) (fun _=>?_) (fun h=>by cases h))
 ·rcases hlook id with ⟨e,_⟩|⟨k,hk',ek,e⟩
  ·grind
  ·rw [e] at h
   simp only [Option.some.injEq,Option.map_eq_some_iff] at h
   obtain ⟨ob0,g1,rfl⟩:=h
   have hok:obs'[k]? = some (some ob0):=by grind
   refine mapO_holds hHn (fun id k h _=>h1' id k h) f3 h3' ?_ (hA.holds k ob0 hok)
   rw [← ek]
   grind
 ·rcases hlook id with ⟨_,e⟩|⟨k,hk',ek,e⟩
  rotate_left
  ·grind
  have hHo:=hs.h.heap id o' ho hgi
  have hne:β.m id≠none:=by rcases hHo with ⟨b,g,_⟩|⟨g,_⟩<;>(grind)
  have hno:∀ k,k<gids.length+8→σ k≠id:=by grind
  have em:β3.m id=βz.m id:=by grind
  rcases hHo with ⟨b,g1,g2⟩|⟨g1,g2⟩
  ·refine .inl ⟨b,by rw [em];exact frzB_lives g1,?_⟩
   have hb':w'.heap[b]? = w.heap[b]? := hkept.block b (hs.h.live id b _ _ g1).2 (fun hb=>by
    obtain ⟨id',n',hid',hm⟩:=blk b hb
    have:=hs.h.inj id id' b _ _ _ _ g1 hm
    subst this
    exact notGid id hno hid')
   have:=g2.keep hk hb'
   simp only [Eff.on,look]
   exact this
  ·exact .inr ⟨by grind [frzB,id],g2⟩
 ·rcases hlook id with ⟨_,e⟩|⟨k,hk',ek,e⟩
  rotate_left
  ·grind
  rcases split3 id with ⟨k,hk8,e',em⟩|⟨hno,em⟩
  ·rw [em]
   exact hA.none k (Nat.le_of_not_lt fun hlt=>e k hlt e'.symm)
  grind [frzB_none,h]
 ·intro p q b n n' mu mu' e1 e2
  have mix:∀ k id m1 u1 m2 u2,β'.m k=some (.lives b m1 u1)→(∀ k,k<gids.length+8→σ k≠id)→βz.m id=some (.lives b m2 u2)→False:=by
   intro k id m1 u1 m2 u2 g1 hno g2
   obtain ⟨_,g3,_⟩:=frzB_inv g2
   obtain ⟨_,g|g⟩:=hA.live k b m1 u1 g1
   ·have:=(hs.h.live id b _ _ g3).2;omega
   ·obtain ⟨id',n',hid',hm⟩:=blk b g
    have:=hs.h.inj id id' b _ _ _ _ g3 hm
    subst this
    exact notGid id hno hid'
  rcases split3 p with ⟨k,hk8,ep,emp⟩|⟨hnp,emp⟩<;>rcases split3 q with ⟨k',hk8',eq,emq⟩|⟨hnq,emq⟩
  ·rw [emp] at e1;rw [emq] at e2
   rw [ep,eq,hA.inj k k' b n n' mu mu' e1 e2]
  ·rw [emp] at e1;rw [emq] at e2
   exact (mix k q _ _ _ _ e1 hnq e2).elim
  ·rw [emp] at e1;rw [emq] at e2
   exact (mix k' p _ _ _ _ e2 hnp e1).elim
  ·rw [emp] at e1;rw [emq] at e2
   exact frzB_inj hs.h.inj p q b n n' mu mu' e1 e2
 ·rcases split3 id with ⟨k,hk8,e,em⟩|⟨hno,em⟩
  ·rcases σ_cases k with ⟨x,hx,ex⟩|⟨hx,ex⟩
   ·grind
   ·exact .inr ⟨k - gids.length,by omega,by omega⟩
  grind [h,frzB_ne]
 ·rcases split3 id with ⟨k,hk8,e,em⟩|⟨hno,em⟩
  ·rw [em] at h
   obtain ⟨g0,g|g⟩:=hA.live k b n mu h
   ·have:=hs.h.hB
    omega
   ·obtain ⟨id',n',_,hm⟩:=blk b g
    exact ⟨(hs.h.live id' b _ _ hm).1,g0⟩
  ·rw [em] at h
   obtain ⟨_,g3,_⟩:=frzB_inv h
   have:=(hs.h.live id b _ _ g3).2
   have:=hkept.size
   exact ⟨(hs.h.live id b _ _ g3).1,by omega⟩
 grind [mapA_rel,id,h]
end
def obDs (nid:Nat):Option Ob→List (Nat×Option Ob)
 | some x=>[(nid,some x)]
 | none=>[]
def slstep (P:Program) (ρ:Operand→AV) (H:Heap):Op→Option (Rq×Nat×AV)
 | .slice t x lo hi none=>match P.underlying t,ρ x with
  | some (.array n e),.own id es i j m=>match H id,szT P e,aBounds n (lo.map ρ) (hi.map ρ) with
   | some o,some z,some (q,l,k)=>match kindAll (fun c=>o.f i (j+c)) n with
    | some kk=>bif Nat.beq z 1&&(Nat.beq o.es es&&Nat.ble n m) then some (q,id,.isl 1 k (fun r _=>.int kk (intOfAV (o.f i (j+(l+r)))))) else none
    | none=>none
   | _,_,_=>none
  | _,_=>none
 | _=>none
section
variable {P : Program} {β : Book} {w : World} {H : Heap} {ρ : Operand → AV} {σ : Operand → Value} {dst : Option Tmp} {ty : TypeId} {pos : String} {after : Array Edge} {g : Option (Nat × Bool)}
theorem slstep_ok {o:Oper} {q:Rq} {id:Nat} {v:AV} (hH:HeapOk β w H) (hρ:∀ x,x∈o.op.operands→Rel β w (ρ x) (σ x)) (h:slstep P ρ H o.op=some (q,id,v)) (hq:q.holds) :
  H id≠none∧∃ u b n mu,(execOp σ o).run P w=.ok (.value u) w∧β.m id=some (.lives b n mu)∧∀ β':Book,β'.free b→Rel β' w v u:=by
 obtain ⟨dst,op,ty,pos,after,g⟩:=o
 unfold slstep at h
 dsimp only at h hρ ⊢
 split at h
 rotate_left
 ·cases h
 rename_i t x lo hi
 have b1:∀ (o:Option Operand),(∀ y,o=some y→Rel β w (ρ y) (σ y))→∀ a,o.map ρ=some a→∃ x,o.map σ=some x∧Rel β w a x:=by
  intro o ho a ha
  cases o<;>grind
 have b2:∀ (o:Option Operand),o.map ρ=none→o.map σ=none:=by simp
 split at h
 rotate_left
 ·cases h
 rename_i n e id' es i j m hu hx
 split at h
 rotate_left
 ·cases h
 rename_i ob z qq l k ho hz hb
 split at h
 rotate_left
 ·cases h
 rename_i kk hkk
 obtain ⟨hc,h⟩:=bif_some h
 cases h
 simp only [Bool.and_eq_true] at hc
 have hz1:=Nat.eq_of_beq_eq_true hc.1
 have hes:=Nat.eq_of_beq_eq_true hc.2.1
 have hnm:=Nat.le_of_ble_eq_true hc.2.2
 subst hz1
 have hρx:=hρ x (by simp [Op.operands])
 rw [hx] at hρx
 refine ⟨by grind,?_⟩
 generalize hsx:σ x=u at hρx
 obtain ⟨b,vals,hp,hcell,hrel,hone⟩:=own_cells hH hρx ho hes
 have hlive:∃ n mu,β.m id=some (.lives b n mu):=by
  cases hρx with
  | own h _ _=>grind
  | ownD h=>exact (hH.dead ho h).elim
 obtain ⟨n0,mu,hlive⟩:=hlive
 obtain ⟨h1,h2⟩:=bounds_ok (P:=P) (isS:=false) (Nat.le_refl n) (b1 lo (fun y hy=>hρ y (by grind [Op.operands]))) (b2 lo) (b1 hi (fun y hy=>hρ y (by grind [Op.operands]))) (b2 hi) hb hq
 subst hp
 refine ⟨.slice (some (if n - l=0 then ⟨b,i*es+j,Option.none⟩ else (⟨b,i*es+j,Option.none⟩:Addr).add (l*1))) (l+k - l) (n - l),b,n0,mu,?_,hlive,fun β' hf=>?_⟩
 ·have e:(if n=l then (⟨b,i*es+j,Option.none⟩:Addr) else (⟨b,i*es+j,Option.none⟩:Addr).add (l*1))=(if n - l=0 then ⟨b,i*es+j,Option.none⟩ else (⟨b,i*es+j,Option.none⟩:Addr).add (l*1)):=by grind
  simp_all [execOp,Instr.sliceAt,Instr.sureAddr,Sem.run_bind,run_underlying,Result.andThen_ok,Option.map_none,szT_run]
 ·have em:l+k - l=k:=by omega
  rw [em]
  by_cases hk:k=0
  ·subst hk
   exact .isl0 (fun h=>by cases h)
  ·rw [if_neg (by omega)]
   simp only [add_mk]
   refine .isl (fun r _=>vals (l+r)) (by omega) (by omega) hf (fun r c hr hc'=>?_) (fun r c hr hc'=>hone _ (by omega)) (fun r c hr hc'=>?_) (fun _ _ _ _=>.int)
   ·grind
   ·have:=hrel (l+r) (by omega)
    obtain ⟨y,hy⟩:=kindAll_spec hkk (l+r) (by omega)
    rw [hy] at this ⊢
    rw [rel_int_inv this]
    exact .int
end
inductive OpD (C : Cfg) (c i : Nat) (o : Oper) (f : Foot) (s : RSt) : Eff → Prop where
  | sl {q : Rq} {id : Nat} {v : AV} (h : slstep C.P (ev C.gl s.fr) (vH f s.H) o.op = some (q, id, v)) (hq : s.G o.guard = true → q.holds) : OpD C c i o f s ⟨v, s.G o.guard, [], [], [id]⟩
  | m {q : Rq} {v : AV} {ob : Option Ob} (h : mstep C.P (ev C.gl s.fr) (vH f s.H) (c + 8 * i) o.op = some (q, v, ob)) (hq : s.G o.guard = true → q.holds) : OpD C c i o f s ⟨v, s.G o.guard, [], obDs (c + 8 * i) ob, []⟩
  | sc {fn : FuncId} {as : List AV} {r : AV} (h : calleeOf (ev C.gl s.fr) o.op = some (fn, as)) (hp : s.G o.guard = true → Pure C.P C.gl fn (as.map (frz 9 (vH f s.H))) r) (hs : sc 9 r = true) : OpD C c i o f s ⟨r, s.G o.guard, [], [], []⟩
  | dc {fn : FuncId} {as : List AV} {r : AV} (ids : List Nat) (hids : ∀ id, vH f s.H id ≠ none → memN ids id = true) (h : calleeOf (ev C.gl s.fr) o.op = some (fn, as))
      (hp : s.G o.guard = true → Pure C.P C.gl fn (as.map (frz 9 (vH f s.H))) r) : OpD C c i o f s ⟨r, s.G o.guard, [], [], ids⟩
  | st {id : Nat} {f' : Rep} (hg : o.guard = none) (h : estep C.P (ev C.gl s.fr) (vH f s.H) o.op = some (id, f')) (hm : memN f.mt id = true) (hmu : (s.H id).map Ob.mu = some true) (hht : s.ht id = none) :
      OpD C c i o f s ⟨.junk, true, [(id, f')], [], []⟩
  | ap {q : Prop} {v : AV} {ids : List Nat} {x : Ob} (hg : o.guard = none) (h : astep C.P (ev C.gl s.fr) (vH f s.H) (c + 8 * i) o.op = some (q, v, ids, x)) (hq : q)
      (hm : ∀ id, id ∈ ids → memN f.mt id = true ∧ (s.H id).map Ob.mu = some true ∧ s.ht id = none) : OpD C c i o f s ⟨v, true, [], (c + 8 * i, some x) :: ids.map (fun id => (id, none)), []⟩
  | gv {fn : FuncId} {as : List AV} {gids zids : List Nat} {r : AV} {obs' : List (Option Ob)} (hg : o.guard = none) (h : calleeOf (ev C.gl s.fr) o.op = some (fn, as)) (hnd : nodupB gids = true)
      (hgm : ∀ id, id ∈ gids → memN f.rd id = true ∧ memN f.mt id = true ∧ (s.H id).map Ob.mu = some true ∧ s.ht id = none) (hz : ∀ id, vH f s.H id ≠ none → memN gids id = false → memN zids id = true)
      (hl : gids.length ≤ obs'.length ∧ obs'.length ≤ gids.length + 8)
      (hG : Gives C.P C.gl fn (givenObs gids (vH f s.H)) (as.map (mapA (posIn gids 0) 9 (restH gids (vH f s.H)))) r obs') :
      OpD C c i o f s ⟨mapA (backIds gids (c + 8 * i)) 9 noH r, true, [], givenDs gids (c + 8 * i) obs', zids⟩
section
variable {K : Ctx} {C : Cfg} {ops : Array Oper} {c : Nat} {E : Nat → Prop} {β : Book} {s sv : RSt} {a : Act} {w : World} {i : Nat} {o : Oper} {f : Foot} {e : Eff}
theorem Agree.G (h:Agree o f sv s):s.G o.guard=sv.G o.guard:=by
 cases hg:o.guard with
 | none=>rfl
 | some jb=>obtain ⟨j,b⟩:=jb;simp only [RSt.G,h.gt j b hg]
theorem Agree.ev {gl:Globs} (h:Agree o f sv s) {x:Operand} (hx:x∈o.op.operands):ev gl sv.fr x=ev gl s.fr x:=by
 cases x with
 | tmp t=>exact (h.fr t hx).symm
 | _=>rfl
theorem op_view {Q:Exit→Act→World→Prop} {Kc:Act→World→Prop} (hP:C.P=K.P) (hgl:C.gl=K.gl) (hs:RSim K ops c E β s a w) (hp:Pre K ops s i o) (hE:E i)
  (hop:opndOk ops s o=true) (hag:Agree o f sv s) (h:OpD C c i o f sv e)
  (hK:∀ β' a' w',RSim K ops c (less E i) β' (s.app i o e) a' w'→Kc a' w'):wpOp K.P ops Q i Kc a w:=by
 have hi:=hp.at_
 have hw:=wanted_eq hs hp.guard
 have hGv:=hag.G
 have hvH:=hag.vH
 have hH:=hs.ok f
 rw [hvH] at hH
 have hall:s.G o.guard=true→(∀ x y z,o.op≠.pick x y z)→∀ x,x∈o.op.operands→Rel β w (Am.ev K.gl sv.fr x) (a.eval x):=by
  intro hg hnp x hx
  have hall:o.op.operands.toList.all (tagOk ops s o.guard)=true:=by grind [opndOk,absurd]
  rw [hag.ev hx]
  exact rel_ev hs (tagOk_G hs hp.guard (List.all_eq_true.1 hall x (by grind)) hg)
 cases h with
 | @sl q id v hm hq =>
  unfold wpOp
  simp only [hi]
  cases hg:s.G o.guard with
  | false=>rw [hw,hg,if_neg (by simp)];exact hK _ _ _ (hs.skip hp hE hGv (by grind) rfl (fun id x hx=>by cases hx))
  | true =>
   rw [hw,hg,if_pos rfl]
   refine .inl ?_
   have hgsv:sv.G o.guard=true:=by grind
   have hnp:∀ x y z,o.op≠.pick x y z:=fun x y z e=>by grind [slstep]
   rw [hP,hgl] at hm
   obtain ⟨_,u,b,n,mu,hrun,hlive,hrel⟩:=slstep_ok hH (hall hg hnp) hm (hq hgsv)
   unfold Oper.wp
   rw [hrun]
   refine hK _ _ _ (hs.plain hp hE hGv rfl rfl (Below.refl _ _) (fun _=>?_) (fun h=>by grind))
   refine hrel _ ⟨fun hF=>?_,fun id' n' h'=>?_⟩
   ·have hF':β.F b:=hF
    rw [hs.h.bF] at hF'
    obtain ⟨g1,g2⟩:=hs.h.hF b hF'
    rcases (hs.h.live id b n mu hlive).1 with h|h
    ·omega
    grind
   ·obtain ⟨mu',g1,g2⟩:=frzB_inv h'
    have:=hs.h.inj id' id b n' n mu' mu g1 hlive
    subst this
    simp [memN] at g2
 | @m q v ob hm hq =>
  unfold wpOp
  simp only [hi]
  cases hg:s.G o.guard with
  | false =>
   rw [hw,hg,if_neg (by simp)]
   refine hK _ _ _ (hs.skip hp hE hGv (by grind) rfl (fun id x hx=>?_))
   cases ob with
   | none=>cases hx
   | some ob =>
    simp only [obDs,look_one] at hx
    by_cases e:c+8*i=id
    ·exact ⟨0,by omega,by omega⟩
    ·rw [if_neg e] at hx;cases hx
  | true =>
   rw [hw,hg,if_pos rfl]
   refine .inl ?_
   have hgsv:sv.G o.guard=true:=by grind
   have hfw:β.free w.heap.size:=by
    refine ⟨fun hF=>?_,fun id n hm=>absurd (hs.h.live id _ n true hm).2 (by omega)⟩
    rw [hs.h.bF] at hF
    have h1:=(hs.h.hF _ hF).1
    have h2:=hs.h.hB
    omega
   have hmok:MOk β w (c+8*i) ((execOp a.eval o).run K.P w) v ob∨MNew β w ((execOp a.eval o).run K.P w) v ob:=by
    by_cases hpick:∃ x y z,o.op=.pick x y z
    ·obtain ⟨x,y,z,hpk⟩:=hpick
     unfold opndOk at hop
     rw [hpk] at hop
     simp only [Bool.and_eq_true] at hop
     obtain ⟨⟨hx,hy⟩,hz⟩:=hop
     have hxr:=rel_ev hs (tagOk_G hs hp.guard hx hg)
     have s1:=hag.ev (gl:=K.gl) (x:=x) (by grind [Op.operands])
     have s2:=hag.ev (gl:=K.gl) (x:=y) (by grind [Op.operands])
     have s3:=hag.ev (gl:=K.gl) (x:=z) (by grind [Op.operands])
     rw [hpk] at hm
     simp only [mstep] at hm
     rw [hgl,s1,s2,s3] at hm
     split at hm
     ·rename_i cb ab bb e1 e2 e3
      cases hm
      rw [e1] at hxr
      have r1:=rel_bool_inv hxr
      refine .inl ⟨.bool (bif cb then ab else bb),?_,.bool⟩
      cases cb with
      | true =>
       have:=arm_rel hs hp.guard hg hxr rfl hy
       rw [e2] at this
       simp [execOp,hpk,r1,asBool,rel_bool_inv this]
      | false =>
       have:=arm_rel hs hp.guard hg hxr rfl hz
       rw [e3] at this
       simp [execOp,hpk,r1,asBool,rel_bool_inv this]
     grind
    ·rw [hP,hgl] at hm
     exact mstep_ok hfw (fun v=>rfl) hH (hall hg (fun x y z e=>hpick ⟨x,y,z,e⟩)) hm (hq hgsv)
   unfold Oper.wp
   rcases hmok with hmok|⟨rfl,u,w',hbw,hu,hr⟩
   rotate_left
   ·rw [hu]
    refine hK _ _ _ (hs.plain hp hE hGv rfl rfl hbw (fun _=>?_) (fun h=>by grind))
    grind [frzB_nil]
   cases ob with
   | none =>
    obtain ⟨u,hu,hr⟩:=hmok
    rw [hu]
    refine hK _ _ _ (hs.plain hp hE hGv rfl rfl (Below.refl _ _) (fun _=>?_) (fun h=>by grind))
    grind [frzB_nil]
   | some x =>
    obtain ⟨hmu,cs,el,hsz,hcells,hform⟩:=hmok
    have hb:Below w.heap.size w (w.alloc (.cells cs el)):=(Below.refl _ w).alloc (Nat.le_refl _) _
    have hnewblk:(w.alloc (.cells cs el)).heap[w.heap.size]? = some (.cells cs el (0,0)):=by
     show (w.heap.push _)[w.heap.size]? = _
     simp
    have hsize:(w.alloc (.cells cs el)).heap.size=w.heap.size+1:=by simp
    rw [hgsv] at hK
    have hobj:∀ β',Keeps β w β' (w.alloc (.cells cs el))→HRel β' (w.alloc (.cells cs el)) x w.heap.size:=fun β' hk=>⟨cs,el,hnewblk,hsz,fun p q hp' hq'=>by
     obtain ⟨u,g1,g2,g3⟩:=hcells p q hp' hq'
     exact ⟨u,g1,g2.keep hk,g3⟩⟩
    rcases hform with ⟨rfl,hn,hrun⟩|⟨rfl,hcs,hrun⟩
    ·rw [hrun]
     obtain ⟨β',hsim⟩:=hs.made hp hE hg hb hsize (x:=x) (v:=.own (c+8*i) x.es 0 0 x.es) (u:=.pointer (some ⟨w.heap.size,0,none⟩)) (fun β' hm' hk=>⟨by
      have:=Rel.own (β:=β') (w:=w.alloc (.cells cs el)) (id:=c+8*i) (es:=x.es) (i:=0) (j:=0) (m:=x.es) hm' (by omega) (by omega)
      grind,hobj β' hk⟩)
     exact hK _ _ _ hsim
    ·rw [hrun]
     obtain ⟨β',hsim⟩:=hs.made hp hE hg hb hsize (x:=x) (v:=.osl (c+8*i) x.es 0 x.n) (u:=.slice (some ⟨w.heap.size,0,none⟩) x.n x.n) (fun β' hm' hk=>⟨by
      have:=Rel.osl (β:=β') (w:=w.alloc (.cells cs el)) (id:=c+8*i) (es:=x.es) (i:=0) (len:=x.n) (cap:=x.n) (sz:=cs.size) (el:=el) hm' (by omega) (Nat.le_refl _) (by grind [World.shape?]) (by grind)
      grind,hobj β' hk⟩)
     exact hK _ _ _ hsim
 | @sc fn as r hc hpu hsc =>
  unfold wpOp
  simp only [hi]
  cases hg:s.G o.guard with
  | false=>rw [hw,hg,if_neg (by simp)];exact hK _ _ _ (hs.skip hp hE hGv (by grind) rfl (fun id x hx=>by cases hx))
  | true =>
   rw [hw,hg,if_pos rfl]
   refine .inl ?_
   have hgsv:sv.G o.guard=true:=by grind
   have hnp:∀ x y z,o.op≠.pick x y z:=fun x y z e=>by grind [calleeOf]
   rw [hgl] at hc
   have hpu':=hpu hgsv
   obtain ⟨vs,hrun,hrel⟩:=callee_run (P:=K.P) (hall hg hnp) hc (hP▸hpu'.1)
   unfold Oper.wp
   rw [hrun]
   have hfz:Rels (Book.none fun _=>False) w (as.map (frz 9 (vH f sv.H))) vs:=by
    obtain ⟨h1,h2⟩:=rels_map hrel.len hrel.rel (fun u v hr=>frz_rel hH (F':=fun _=>False) (fun _ _ h=>h) (fun _ _ _ _ _ _ _ h=>h) 9 u v hr)
    exact ⟨h1,h2⟩
   have:=hpu'.use (F:=fun _=>False) (fun _ h=>h.elim) (fun g m h hgl'=>(hs.h.glob g m h (hgl▸hgl')).rebook (fun b hb=>⟨fun h=>h,fun id n h=>by grind [Book.none]⟩) (by
    obtain ⟨_,_,_,_,_,_,_,_,hcl,_⟩:=rel_ipt_inv (hs.h.glob g m h (hgl▸hgl')).rel
    exact .ipt hcl)) hfz
   rw [hP] at this
   refine this.mono fun e w' hh=>?_
   obtain ⟨v,rfl,hb,hr⟩:=hh
   refine hK _ _ _ (hs.plain hp hE hGv rfl rfl hb (fun _=>?_) (fun h=>by grind))
   exact hr.scalar 9 hsc
 | @dc fn as r ids hids hc hpu =>
  unfold wpOp
  simp only [hi]
  cases hg:s.G o.guard with
  | false=>rw [hw,hg,if_neg (by simp)];exact hK _ _ _ (hs.skip hp hE hGv (by grind) rfl (fun id x hx=>by cases hx))
  | true =>
   rw [hw,hg,if_pos rfl]
   refine .inl ?_
   have hgsv:sv.G o.guard=true:=by grind
   have hnp:∀ x y z,o.op≠.pick x y z:=fun x y z e=>by grind [calleeOf]
   rw [hgl] at hc
   have hpu':=hpu hgsv
   obtain ⟨vs,hrun,hrel⟩:=callee_run (P:=K.P) (hall hg hnp) hc (hP▸hpu'.1)
   unfold Oper.wp
   rw [hrun]
   have zfree:∀ b,β.free b→(frzB ids β).free b:=by
    intro b hf
    refine ⟨hf.1,fun id n h=>?_⟩
    obtain ⟨mu',h1,h2⟩:=frzB_inv h
    have:mu'=true:=by grind
    subst this
    exact hf.2 id n h1
   have hfree:∀ id ob b n mu,vH f sv.H id=some ob→β.m id=some (.lives b n mu)→¬¬(frzB ids β).free b:=by
    intro id ob b n mu ho hm hnf
    apply hnf
    have hid:=hids id (by grind)
    refine ⟨fun hF=>?_,fun id' n' h'=>?_⟩
    ·have hF':β.F b:=hF
     rw [hs.h.bF] at hF'
     obtain ⟨g1,g2⟩:=hs.h.hF b hF'
     rcases (hs.h.live id b n mu hm).1 with h|h
     ·omega
     grind
    ·obtain ⟨mu',g1,g2⟩:=frzB_inv h'
     have:=hs.h.inj id' id b n' n mu' mu g1 hm
     grind
   have hfz:Rels (Book.none fun b=>¬(frzB ids β).free b) w (as.map (frz 9 (vH f sv.H))) vs:=by
    obtain ⟨h1,h2⟩:=rels_map hrel.len hrel.rel (fun u v hr=>frz_rel hH (F':=fun b=>¬(frzB ids β).free b) (fun b hb h=>h (zfree b hb)) (fun id ob b n mu ho hm=>hfree id ob b n mu ho hm) 9 u v hr)
    exact ⟨h1,h2⟩
   have hFlt:∀ b,¬(frzB ids β).free b→b<w.heap.size:=by
    intro b hb
    apply Classical.byContradiction
    intro hge
    apply hb
    refine ⟨fun hF=>?_,fun id n h=>?_⟩
    ·have hF':β.F b:=hF
     rw [hs.h.bF] at hF'
     have:=(hs.h.hF b hF').1
     have:=hs.h.hB
     omega
    ·obtain ⟨_,g1,_⟩:=frzB_inv h
     have:=(hs.h.live id b n _ g1).2
     omega
   have:=hpu'.use (F:=fun b=>¬(frzB ids β).free b) hFlt (fun g m h hgl'=>(hs.h.glob g m h (hgl▸hgl')).rebook (fun b hb=>⟨fun h=>h (zfree b hb),fun id n h=>by grind [Book.none]⟩) (by
    obtain ⟨_,_,_,_,_,_,_,_,hcl,_⟩:=rel_ipt_inv (hs.h.glob g m h (hgl▸hgl')).rel
    exact .ipt hcl)) hfz
   rw [hP] at this
   refine this.mono fun e w' hh=>?_
   obtain ⟨v,rfl,hb,hr⟩:=hh
   refine hK _ _ _ (hs.plain hp hE hGv rfl rfl hb (fun _=>?_) (fun h=>by grind))
   exact hr.rebook (fun b hb=>Classical.not_not.1 hb.1) hr.closed
 | @st id f' hgn he hm hmu hht =>
  have hg:s.G o.guard=true:=by rw [hgn];rfl
  have hnp:∀ x y z,o.op≠.pick x y z:=fun x y z ee=>by grind [estep]
  rw [hP,hgl,← hvH] at he
  obtain ⟨w',hrun,hsim⟩:=hs.stored hp hE hgn (hall hg hnp) (by rw [hag.mt id hm];omega) (by rw [hag.ht id hm];omega) he
  unfold wpOp
  simp only [hi]
  rw [hw,hg,if_pos rfl]
  refine .inl ?_
  unfold Oper.wp
  rw [hrun]
  exact hK _ _ _ hsim
 | @ap q v ids x hgn he hq hm =>
  have hg:s.G o.guard=true:=by rw [hgn];rfl
  have hnp:∀ x y z,o.op≠.pick x y z:=fun x y z ee=>by grind [astep,astep0,zstep,cvstep]
  rw [hP,hgl,← hvH] at he
  obtain ⟨u,w',hrun,β',hsim⟩:=hs.appended hp hE hgn (hall hg hnp) (fun id hid=>⟨by rw [hag.mt id (hm id hid).1];grind,by rw [hag.ht id (hm id hid).1];grind⟩) he hq
  unfold wpOp
  simp only [hi]
  rw [hw,hg,if_pos rfl]
  refine .inl ?_
  unfold Oper.wp
  rw [hrun]
  exact hK _ _ _ hsim
 | @gv fn as gids zids r obs' hgn hc hnd hgm hz hl hG =>
  have hg:s.G o.guard=true:=by rw [hgn];rfl
  have hnp:∀ x y z,o.op≠.pick x y z:=fun x y z e=>by grind [calleeOf]
  rw [hgl] at hc
  obtain ⟨vs,hrun,hrel⟩:=callee_run (P:=K.P) (hall hg hnp) hc (hP▸hG.1)
  unfold wpOp
  simp only [hi]
  rw [hw,hg,if_pos rfl]
  refine .inl ?_
  unfold Oper.wp
  rw [hrun]
  rw [hP,hgl,← hvH] at hG
  have:=hs.given (Q:=fun w' u=>Kc (a.put o.dst u) w') hp hE hg hrel hnd (fun id hid=>⟨(hgm id hid).1,by rw [hag.mt id (hgm id hid).2.1];grind,by rw [hag.ht id (hgm id hid).2.1];grind⟩)
   (fun id hv hn=>hz id (by simp_all) hn) hl hG (fun u w' β' hsim=>hK _ _ _ hsim)
  refine this.mono fun e w' hh=>?_
  grind
def _root_.Go.Oper.bare (o:Oper):Oper:={ o with guard:=none }
theorem RSim.bare (hi:s.gt i=none) (hG:s.G o.guard=true) (hgd:∀ j b,o.guard=some (j,b)→s.gt j≠none) (hs:RSim K ops c E β (s.app i o e) a w):RSim K ops c E β (s.app i o.bare e) a w:=by
 have eG:∀ γ,(s.app i o.bare e).G γ=(s.app i o e).G γ:=fun γ=>by cases γ<;>rfl
 have hg1:(s.app i o e).G o.guard=true:=by rw [app_G hi o e _ hgd];exact hG
 have htg:∀ n,(s.app i o.bare e).G ((s.app i o.bare e).tg n)=(s.app i o e).G ((s.app i o e).tg n):=fun n=>by
  rw [eG,app_tg,app_tg]
  show (s.app i o e).G (if o.dst=some n then none else s.tg n)=_
  by_cases h:o.dst=some n
  ·rw [if_pos h,if_pos h,hg1];rfl
  ·rw [if_neg h,if_neg h]
 have hht:∀ n,(s.app i o.bare e).G ((s.app i o.bare e).ht n)=(s.app i o e).G ((s.app i o e).ht n):=fun n=>by
  rw [eG,app_ht,app_ht]
  cases look e.ds n with
  | some x=>show true=_;exact hg1.symm
  | none=>rfl
 obtain ⟨h,f⟩:=hs
 refine ⟨?_,⟨fun n=>by rw [htg n];exact f.slot n,f.size,f.defers,fun j g b hj=>?_,f.gtok,fun n j b hn=>?_,fun n j b hn=>?_,f.todo⟩⟩
 ·have:=funext hht
  simp only [this]
  exact h
 ·obtain ⟨o',d,h1,h2,h3,h4⟩:=f.gtag j g b hj
  exact ⟨o',d,h1,h2,by rw [eG];exact h3,h4⟩
 ·rw [app_tg] at hn
  by_cases h':o.dst=some n
  ·have:o.bare.dst=some n:=h'
   rw [if_pos this] at hn;cases hn
  ·have:¬o.bare.dst=some n:=h'
   rw [if_neg this] at hn
   exact f.tgok n j b (by rw [app_tg,if_neg h'];exact hn)
 ·rw [app_ht] at hn
  cases hl:look e.ds n with
  | some x=>simp only [hl] at hn;cases hn
  | none=>simp only [hl] at hn;exact f.htok n j b (by rw [app_ht,hl];exact hn)
def GvD (C:Cfg) (c i:Nat) (o:Oper) (f:Foot) (s:RSt) (e:Eff):Prop:=∃ (fn:FuncId) (as:List AV) (gids zids:List Nat) (r:AV) (obs':List (Option Ob)),
 calleeOf (ev C.gl s.fr) o.op=some (fn,as)∧nodupB gids=true ∧
 (∀ id,id∈gids→memN f.rd id=true∧memN f.mt id=true∧(s.H id).map Ob.mu=some true∧s.ht id=none)∧(∀ id,vH f s.H id≠none→memN gids id=false→memN zids id=true) ∧
 (gids.length≤obs'.length∧obs'.length≤gids.length+8)∧Gives C.P C.gl fn (givenObs gids (vH f s.H)) (as.map (mapA (posIn gids 0) 9 (restH gids (vH f s.H)))) r obs' ∧
 e=⟨mapA (backIds gids (c+8*i)) 9 noH r,true,[],givenDs gids (c+8*i) obs',zids⟩
theorem bare_view {Q:Exit→Act→World→Prop} {Kc:Act→World→Prop} (hP:C.P=K.P) (hgl:C.gl=K.gl) (hs:RSim K ops c E β s a w) (hp:Pre K ops s i o) (hE:E i)
  (hop:opndOk ops s o=true) (hG:s.G o.guard=true) (h:GvD C c i o f s e)
  (hK:∀ β' a' w',RSim K ops c (less E i) β' (s.app i o.bare e) a' w'→Kc a' w'):wpOp K.P ops Q i Kc a w:=by
 obtain ⟨fn,as,gids,zids,r,obs',hc,hnd,hgm,hz,hl,hGv,rfl⟩:=h
 have hi:=hp.at_
 have hw:=wanted_eq hs hp.guard
 have hnp:∀ x y z,o.op≠.pick x y z:=fun x y z e=>by rw [e] at hc;simp [calleeOf] at hc
 have hall:∀ x,x∈o.op.operands→Rel β w (Am.ev K.gl s.fr x) (a.eval x):=by
  intro x hx
  have hall:o.op.operands.toList.all (tagOk ops s o.guard)=true:=by
   unfold opndOk at hop
   split at hop
   ·rename_i x y z he;exact absurd he (hnp x y z)
   ·exact hop
  exact rel_ev hs (tagOk_G hs hp.guard (List.all_eq_true.1 hall x (by simpa using hx)) hG)
 rw [hgl] at hc
 obtain ⟨vs,hrun,hrel⟩:=callee_run (P:=K.P) hall hc (hP▸hGv.1)
 unfold wpOp
 simp only [hi]
 rw [hw,hG,if_pos rfl]
 refine .inl ?_
 unfold Oper.wp
 rw [hrun]
 rw [hP,hgl] at hGv
 have:=hs.given (Q:=fun w' u=>Kc (a.put o.dst u) w') hp hE hG hrel hnd (fun id hid=>⟨(hgm id hid).1,(hgm id hid).2.2.1,(hgm id hid).2.2.2⟩)
  hz hl hGv (fun u w' β' hsim=>hK _ _ _ (hsim.bare (hs.f.todo i hE) hG hp.guard))
 refine this.mono fun e w' hh=>?_
 obtain ⟨u,rfl,hk⟩:=hh
 exact hk
theorem bare_skip {Q:Exit→Act→World→Prop} {Kc:Act→World→Prop} {v:AV} (hs:RSim K ops c E β s a w) (hp:Pre K ops s i o) (hE:E i) (hG:s.G o.guard=false)
  (hK:∀ β' a' w',RSim K ops c (less E i) β' (s.app i o ⟨v,false,[],[],[]⟩) a' w'→Kc a' w'):wpOp K.P ops Q i Kc a w:=by
 have hi:=hp.at_
 have hw:=wanted_eq hs hp.guard
 unfold wpOp
 simp only [hi]
 rw [hw,hG,if_neg (by simp)]
 exact hK _ _ _ (hs.skip (e:=⟨v,false,[],[],[]⟩) hp hE hG rfl rfl (fun id x hx=>by cases hx))
end
def preOf (acc:Array Nat) (o:Oper):Nat:=o.after.foldl (fun s e=>if Region.binds .any e then s ||| 2^e.on ||| acc.getD e.on 0 else s) 0
theorem before_eq (ops:Array Oper):Region.before ops=ops.foldl (init := #[]) fun acc o=>acc.push (preOf acc o):=rfl
theorem foldl_push_spec (l:List Oper):∀ (acc:Array Nat),∃ B:Array Nat,l.foldl (fun acc o=>acc.push (preOf acc o)) acc=B∧B.size=acc.size+l.length∧(∀ k,k<acc.size→B[k]? = acc[k]?) ∧
  ∀ i o,l[i]? = some o→∃ A:Array Nat,A.size=acc.size+i∧(∀ k,k<A.size→A[k]? = B[k]?)∧B[acc.size+i]? = some (preOf A o):=by
 induction l with
 | nil=>simp
 | cons x l ih =>
  intro acc
  obtain ⟨B,h1,h2,h3,h4⟩:=ih (acc.push (preOf acc x))
  refine ⟨B,h1,by grind,fun k hk=>?_,fun i o ho=>?_⟩
  ·grind
  grind
theorem testBit_fold (acc:Array Nat) (b:Nat) (es:List Edge):∀ (s:Nat),(es.foldl (fun s e=>if Region.binds .any e then s ||| 2^e.on ||| acc.getD e.on 0 else s) s).testBit b=true →
  s.testBit b=true∨∃ e,e∈es∧Region.binds .any e=true∧(b=e.on∨(acc.getD e.on 0).testBit b=true):=by
 induction es with
 | nil=>simp
 | cons x es ih =>
  intro s h
  simp only [List.foldl_cons] at h
  rcases ih _ h with h|⟨e,he,hb,hx⟩
  ·by_cases hbd:Region.binds .any x=true
   ·grind
   grind
  grind
def pre (ops:Array Oper) (i j:Nat):Bool:=((Region.before ops).getD i 0).testBit j
def Closed (ops:Array Oper) (L:Nat→Prop):Prop:=∀ i j,L i→pre ops i j=true→L j
theorem pre_of_ready {ops:Array Oper} {L:Nat→Prop} (hc:Closed ops L) {i:Nat} {o:Oper} (hi:ops[i]? = some o) (hr:∀ e,e∈o.after→Region.binds .any e=true→L e.on):∀ j,pre ops i j=true→L j:=by
 intro j hj
 obtain ⟨B,h1,h2,_,h4⟩:=foldl_push_spec ops.toList #[]
 obtain ⟨A,g1,g2,g3⟩:=h4 i o (by grind)
 have hB:Region.before ops=B:=by grind [before_eq]
 unfold pre at hj
 simp only [List.size_toArray,List.length_nil,Nat.zero_add] at g1 g3
 rw [hB,Array.getD_eq_getD_getElem?,g3] at hj
 simp only [Option.getD_some,preOf] at hj
 rw [← Array.foldl_toList] at hj
 rcases testBit_fold A j o.after.toList 0 hj with h|⟨e,he,hb,hx⟩
 ·grind
 ·have hL:=hr e (by grind) hb
  rcases hx with rfl|hx
  ·omega
  ·refine hc e.on j hL ?_
   unfold pre
   rw [hB]
   rw [Array.getD_eq_getD_getElem?] at hx ⊢
   grind
section
variable {ops : Array Oper}
abbrev Li (listed:Array Bool):Nat→Prop:=fun j=>listed.getD j false=true
theorem Li_set {listed:Array Bool} {i:Nat} (hi:i<listed.size) (j:Nat):Li (listed.setIfInBounds i true) j↔Li listed j∨j=i:=by
 unfold Li
 rw [Array.getD_eq_getD_getElem?,Array.getD_eq_getD_getElem?,Array.getElem?_setIfInBounds]
 grind
theorem not_Li {listed:Array Bool} {i:Nat} (h:listed.getD i true=false):¬Li listed i∧i<listed.size:=by grind
theorem closed_set {listed:Array Bool} {i:Nat} {o:Oper} (hc:Closed ops (Li listed)) (hi:i<listed.size) (ho:ops[i]? = some o) (hr:∀ e,e∈o.after→Region.binds .any e=true→Li listed e.on) :
  Closed ops (Li (listed.setIfInBounds i true)):=by
 intro x y hx hxy
 rw [Li_set hi] at hx ⊢
 rcases hx with hx|rfl
 ·exact .inl (hc x y hx hxy)
 grind [pre_of_ready]
theorem ready_spec {listed:Array Bool} {i:Nat} (h:i∈Region.ready .any ops listed):¬Li listed i∧i<listed.size∧∃ o,ops[i]? = some o∧∀ e,e∈o.after→Region.binds .any e=true→Li listed e.on:=by grind [mem_ready,not_Li]
theorem least_not {L:Nat→Prop} {n:Nat} (h:¬∀ j,j<n→L j):∃ i,i<n∧¬L i∧∀ j,j<i→L j:=by
 induction n with
 | zero=>grind
 | succ n ih =>
  by_cases hn:∀ j,j<n→L j
  ·grind
  grind
end
def drawOk (ops:Array Oper) (l:List (Foot×Eff)):Bool :=
 (List.range ops.size).all fun j=>match ops[j]?,l[j]? with
  | some oj,some (fj,ej)=>oj.after.toList.all (fun e => !Region.binds .any e||Nat.blt e.on j) &&
    (List.range j).all fun i=>pre ops j i||(match ops[i]?,l[i]? with
     | some oi,some (fi,ei)=>offOk ops oi fi oj ej&&(offOk ops oj fj oi ei&&commOk oi ei oj ej)
     | _,_=>false)
  | _,_=>false
theorem drawOk_spec {ops:Array Oper} {es:Nat→Eff} {fs:Nat→Foot} (h:drawOk ops ((List.range ops.size).map fun j=>(fs j,es j))=true) {j:Nat} {oj:Oper} (hj:ops[j]? = some oj) :
  (∀ e,e∈oj.after→Region.binds .any e=true→e.on<j) ∧
  ∀ i oi,i<j→ops[i]? = some oi→pre ops j i=true∨(offOk ops oi (fs i) oj (es j)=true∧offOk ops oj (fs j) oi (es i)=true∧commOk oi (es i) oj (es j)=true):=by
 have hlt:j<ops.size:=(Array.getElem?_eq_some_iff.1 hj).1
 have hget:∀ k,k<ops.size→((List.range ops.size).map fun j=>(fs j,es j))[k]? = some (fs k,es k):=fun k hk=>by grind
 have h1:=List.all_eq_true.1 h j (List.mem_range.2 hlt)
 simp only [hj,hget j hlt,Bool.and_eq_true] at h1
 refine ⟨fun e he hb=>?_,fun i oi hi hoi=>?_⟩
 ·have:=List.all_eq_true.1 h1.1 e (by grind)
  simp only [hb,Bool.not_true,Bool.false_or,Nat.blt_eq] at this
  omega
 grind
def lex (C:Cfg) (ops:Array Oper) (dr:Bool) (c:Nat):List Oper→Nat→RSt→List (Foot×Eff)→(RSt→List (Foot×Eff)→Prop)→Prop
 | [],_,s,acc,X=>X s acc
 | o::rest,i,s,acc,X=>okOp C.nt ops s o=true∧((∃ f e,OpD C c i o f s e∧lex C ops dr c rest (i+1) (s.app i o e) ((f,e)::acc) X) ∨
  (dr=false∧(s.G o.guard=true→∃ f e,GvD C c i o f s e∧lex C ops dr c rest (i+1) (s.app i o.bare e) ((f,e)::acc) X) ∧
   (s.G o.guard=false→∃ v acc',lex C ops dr c rest (i+1) (s.app i o ⟨v,false,[],[],[]⟩) acc' X)))
theorem stOf_congr {ops:Array Oper} {es es':Nat→Eff}:∀ (l:List Nat) (s:RSt),(∀ j,j∈l→es j=es' j)→stOf ops es s l=stOf ops es' s l:=by
 intro l
 induction l with
 | nil=>intro s _;rfl
 | cons j l ih =>
  grind [stOf_cons,List.mem_cons_of_mem,stp,List.mem_cons_self]
theorem lex_states {C:Cfg} {ops:Array Oper} {c:Nat} {X:RSt→List (Foot×Eff)→Prop}:∀ (l:List Oper) (i:Nat) (s:RSt) (acc:List (Foot×Eff)),(∀ j,l[j]? = ops[i+j]?)→lex C ops true c l i s acc X →
  ∃ (es:Nat→Eff) (fs:Nat→Foot),(∀ j o,j<l.length→ops[i+j]? = some o→okOp C.nt ops (stOf ops es s (List.range' i j)) o=true∧OpD C c (i+j) o (fs (i+j)) (stOf ops es s (List.range' i j)) (es (i+j))) ∧
   X (stOf ops es s (List.range' i l.length)) (((List.range' i l.length).map fun j=>(fs j,es j)).reverse++acc):=by
 intro l
 induction l with
 | nil=>intro i s acc _ h;exact ⟨fun _=>⟨.junk,true,[],[],[]⟩,fun _=>⟨[],[],[]⟩,fun j o hj=>absurd hj (by simp),h⟩
 | cons o rest ih =>
  intro i s acc hl h
  obtain ⟨hok,hh⟩:=h
  obtain ⟨f,e,hop,hrest⟩:=hh.resolve_right (fun h=>by cases h.1)
  have h0:ops[i]? = some o:=by simpa using (hl 0).symm
  obtain ⟨es,fs,h1,h2⟩:=ih (i+1) _ _ (fun j=>by have:=hl (j+1);grind) hrest
  let es':Nat→Eff:=fun j=>if j=i then e else es j
  let fs':Nat→Foot:=fun j=>if j=i then f else fs j
  have hst:∀ n,stOf ops es' s (List.range' i (n+1))=stOf ops es (s.app i o e) (List.range' (i+1) n):=by
   intro n
   rw [List.range'_succ,stOf_cons]
   grind [stp,stOf_congr]
  refine ⟨es',fs',fun j oj hj hoj=>?_,?_⟩
  ·cases j with
   | zero =>
    rw [Nat.add_zero,h0] at hoj
    cases hoj
    simp only [List.range'_zero,stOf,List.foldl_nil,Nat.add_zero,es',fs',if_pos rfl]
    grind
   | succ j =>
    grind
  ·rw [List.length_cons,hst,List.range'_succ,List.map_cons,List.reverse_cons,List.append_assoc]
   grind [List.range',List.map_congr_left]
section
variable {K : Ctx} {C : Cfg} {ops : Array Oper} {c : Nat} {E E' : Nat → Prop} {β : Book} {s : RSt} {a : Act} {w : World} {Q : Exit → Act → World → Prop}
theorem RSim.fewer (h:RSim K ops c E β s a w) (hE:∀ j,E' j→E j):RSim K ops c E' β s a w :=
 ⟨⟨h.h.heap,h.h.hdead,h.h.inj,h.h.fresh,fun i k hi=>h.h.freshE i k (hE i hi),h.h.live,h.h.giv,h.h.bF,h.h.hF,h.h.kept,h.h.hB,h.h.glob⟩,
   ⟨h.f.slot,h.f.size,h.f.defers,h.f.gtag,h.f.gtok,h.f.tgok,h.f.htok,fun i hi=>h.f.todo i (hE i hi)⟩⟩
theorem okOp_agree {nt:Nat} {f:Foot} {sv:RSt} {o:Oper} (h:Agree o f sv s) (hok:okOp nt ops sv o=true):okOp nt ops s o=true:=by
 unfold okOp at hok ⊢
 rw [opndOk_agree h]
 cases hg:o.guard with
 | none=>grind
 | some jb=>obtain ⟨j,b⟩:=jb;rw [hg] at hok;simp only [h.gt j b hg];omega
def OneDst (ops:Array Oper):Prop:=∀ (i j:Nat) (oi oj:Oper) (d:Tmp),ops[i]? = some oi→ops[j]? = some oj→oi.dst=some d→oj.dst=some d→i=j
theorem lex_pre (hP:C.P=K.P) (hgl:C.gl=K.gl) (hnt:C.nt=K.nt) (hone:OneDst ops) {X:RSt→List (Foot×Eff)→Prop} {is:List Nat} {m:Nat}
  (hQ:∀ β s acc a w,RSim K ops c (fun j=>m≤j) β s a w→X s acc→wpOps K.P ops Q is a w):∀ (l:List Oper) (i:Nat) (s:RSt) (acc:List (Foot×Eff)) (β:Book) (a:Act) (w:World),(∀ j,j<l.length→l[j]? = ops[i+j]?)→i+l.length=m →
  lex C ops false c l i s acc X→RSim K ops c (fun j=>i≤j) β s a w→wpOps K.P ops Q (List.range' i l.length++is) a w:=by
 intro l
 induction l with
 | nil =>
  intro i s acc β a w _ hn h hs
  have:m=i:=by grind
  exact hQ β s acc a w (hs.fewer fun j hj=>by omega) h
 | cons o rest ih =>
  intro i s acc β a w hl hn h hs
  obtain ⟨hok,hh⟩:=h
  have h0:ops[i]? = some o:=by simpa using (hl 0 (by simp)).symm
  rw [List.length_cons,List.range'_succ,List.cons_append,wpOps_cons]
  obtain ⟨hp,hopn⟩:=okOp_pre (K:=K) hnt.symm hok h0 (fun j oj d h1 h2 h3=>hone j i oj o d h1 h0 h2 h3)
  have go:∀ s' acc' β' a' w',lex C ops false c rest (i+1) s' acc' X→RSim K ops c (less (fun j=>i≤j) i) β' s' a' w'→wpOps K.P ops Q (List.range' (i+1) rest.length++is) a' w':=fun s' acc' β' a' w' hrest hs' =>
   ih (i+1) s' acc' β' a' w' (fun j hj=>by have:=hl (j+1) (by simp;omega);simpa [Nat.add_assoc,Nat.add_comm 1 j] using this) (by simp at hn;omega) hrest (hs'.fewer fun j hj=>⟨by omega,by omega⟩)
  rcases hh with ⟨f,e,hop,hrest⟩|⟨_,ht,hf⟩
  ·exact op_view hP hgl hs hp (Nat.le_refl _) hopn (Agree.refl o f s) hop (fun β' a' w' hs'=>go _ _ β' a' w' hrest hs')
  ·cases hG:s.G o.guard with
   | true =>
    obtain ⟨f,e,hgv,hrest⟩:=ht hG
    exact bare_view hP hgl hs hp (Nat.le_refl _) hopn hG hgv (fun β' a' w' hs'=>go _ _ β' a' w' hrest hs')
   | false =>
    obtain ⟨v,acc',hrest⟩:=hf hG
    exact bare_skip hs hp (Nat.le_refl _) hG (fun β' a' w' hs'=>go _ _ β' a' w' hrest hs')
theorem lex_ok (hP:C.P=K.P) (hgl:C.gl=K.gl) (hnt:C.nt=K.nt) (hone:OneDst ops) {X:RSt→List (Foot×Eff)→Prop}
  (hQ:∀ β s acc a w,RSim K ops c (fun j=>ops.size≤j) β s a w→X s acc→Q .normal a w) (l:List Oper) (i:Nat) (s:RSt) (acc:List (Foot×Eff)) (β:Book) (a:Act) (w:World) (hl:∀ j,l[j]? = ops[i+j]?) (hn:i+l.length=ops.size)
  (h:lex C ops false c l i s acc X) (hs:RSim K ops c (fun j=>i≤j) β s a w):wpOps K.P ops Q (List.range' i l.length) a w:=by
 have:=lex_pre (is:=[]) hP hgl hnt hone (fun β s acc a w hr hX=>hQ β s acc a w hr hX) l i s acc β a w (fun j _=>hl j) hn h hs
 grind
structure Drawn (K : Ctx) (C : Cfg) (ops : Array Oper) (c : Nat) (es : Nat → Eff) (fs : Nat → Foot) (s0 : RSt) (Q : Exit → Act → World → Prop) : Prop where
  hP : C.P = K.P
  hgl : C.gl = K.gl
  hnt : C.nt = K.nt
  back : ∀ j oj, ops[j]? = some oj → ∀ e, e ∈ oj.after → Region.binds .any e = true → e.on < j
  pair : ∀ i j oi oj, i < j → ops[i]? = some oi → ops[j]? = some oj → pre ops j i = true ∨ (offOk ops oi (fs i) oj (es j) = true ∧ offOk ops oj (fs j) oi (es i) = true ∧ commOk oi (es i) oj (es j) = true)
  st : ∀ j o, ops[j]? = some o → okOp C.nt ops (stOf ops es s0 (List.range j)) o = true ∧ OpD C c j o (fs j) (stOf ops es s0 (List.range j)) (es j)
  one : OneDst ops
  fin : ∀ β a w, RSim K ops c (fun j => ops.size ≤ j) β (stOf ops es s0 (List.range ops.size)) a w → Q .normal a w
def lst (listed:Array Bool):Nat→Bool:=fun j=>listed.getD j false
theorem filter_split {n i:Nat} (p p':Nat→Bool) (hi:i<n) (hp:p i=false) (hp':∀ j,p' j=(p j||j==i)) :
  ∃ B,(List.range n).filter p=(List.range i).filter p++B∧(List.range n).filter p'=(List.range i).filter p++i::B∧∀ j,j∈B→i<j∧p j=true:=by
 have hr:List.range n=List.range i++i::List.range' (i+1) (n - i - 1):=by
  rw [List.range_eq_range',List.range_eq_range']
  have e:n=i+(1+(n - i - 1)):=by omega
  conv=>lhs;rw [e]
  rw [← List.range'_append_1,Nat.zero_add]
  grind [Nat.add_comm,List.range'_succ]
 refine ⟨(List.range' (i+1) (n - i - 1)).filter p,?_,?_,fun j hj=>?_⟩
 ·grind
 ·rw [hr,List.filter_append,List.filter_cons]
  have h1:p' i=true:=by grind
  have h2:(List.range i).filter p'=(List.range i).filter p:=List.filter_congr (fun j hj=>by simp_all [List.mem_range]<;>omega)
  have h3:(List.range' (i+1) (n - i - 1)).filter p'=(List.range' (i+1) (n - i - 1)).filter p:=List.filter_congr (fun j hj=>by simp_all [List.mem_range'_1]<;>omega)
  grind
 grind
theorem any_ok {es:Nat→Eff} {fs:Nat→Foot} {s0:RSt} (D:Drawn K C ops c es fs s0 Q):∀ (fuel:Nat) (listed:Array Bool) (β:Book) (a:Act) (w:World),listed.size=ops.size→fuel+((List.range ops.size).filter (lst listed)).length=ops.size →
  Closed ops (Li listed)→RSim K ops c (fun j=>¬Li listed j) β (stOf ops es s0 ((List.range ops.size).filter (lst listed))) a w→wpAny K.P .any ops Q fuel listed a w:=by
 have whole:∀ (listed:Array Bool) (β:Book) (a:Act) (w:World),listed.size=ops.size→(∀ j,j<ops.size→Li listed j)→RSim K ops c (fun j=>¬Li listed j) β (stOf ops es s0 ((List.range ops.size).filter (lst listed))) a w→Q .normal a w:=by
  intro listed β a w hsz hall hs
  have e:(List.range ops.size).filter (lst listed)=List.range ops.size:=List.filter_eq_self.2 (fun j hj=>hall j (List.mem_range.1 hj))
  rw [e] at hs
  refine D.fin β a w (hs.fewer fun j hj hl=>?_)
  grind
 have step:∀ (fuel:Nat) (listed:Array Bool) (β:Book) (a:Act) (w:World),listed.size=ops.size→fuel+1+((List.range ops.size).filter (lst listed)).length=ops.size→Closed ops (Li listed) →
   RSim K ops c (fun j=>¬Li listed j) β (stOf ops es s0 ((List.range ops.size).filter (lst listed))) a w→∀ i,i∈Region.ready .any ops listed→∀ (Kc:Act→World→Prop),
   (∀ β' a' w',(listed.setIfInBounds i true).size=ops.size→fuel+((List.range ops.size).filter (lst (listed.setIfInBounds i true))).length=ops.size→Closed ops (Li (listed.setIfInBounds i true)) →
    RSim K ops c (fun j=>¬Li (listed.setIfInBounds i true) j) β' (stOf ops es s0 ((List.range ops.size).filter (lst (listed.setIfInBounds i true)))) a' w'→Kc a' w')→wpOp K.P ops Q i Kc a w:=by
  intro fuel listed β a w hsz hlen hcl hs i hi Kc hKc
  obtain ⟨hnl,hilt,o,ho,hr⟩:=ready_spec hi
  have hin:i<ops.size:=by omega
  have hpi:lst listed i=false:=by grind [lst,absurd]
  have hpre:=pre_of_ready hcl ho hr
  obtain ⟨B,e1,e2,hB⟩:=filter_split (lst listed) (lst (listed.setIfInBounds i true)) hin hpi (fun j=>by
   have:=Li_set hilt j
   rw [Bool.eq_iff_iff,Bool.or_eq_true]
   unfold lst
   grind)
  obtain ⟨hok,hop⟩:=D.st i o ho
  have hag:Agree o (fs i) (stOf ops es s0 (List.range i)) (stOf ops es s0 ((List.range ops.size).filter (lst listed))):=by
   rw [e1,stOf_append]
   refine Agree.tail B _ _ (fun j oj hj hoj=>?_) (Agree.fold (lst listed) (List.range i) s0 s0 (fun j oj hj hpj hoj=>?_) (Agree.refl _ _ _))
   ·obtain ⟨h1,h2⟩:=hB j hj
    rcases D.pair i j o oj h1 ho hoj with h|h
    ·exact absurd (hcl j i h2 h) hnl
    grind
   ·have h1:=List.mem_range.1 hj
    rcases D.pair j i oj o h1 hoj ho with h|h
    ·simp_all [Li,lst]
    grind
  have hok':=okOp_agree hag hok
  obtain ⟨hp,hopn⟩:=okOp_pre (K:=K) D.hnt.symm hok' ho (fun j oj d h1 h2 h3=>D.one j i oj o d h1 ho h2 h3)
  refine op_view D.hP D.hgl hs hp hnl hopn hag hop (fun β' a' w' hs'=>?_)
  have hstp:(stOf ops es s0 ((List.range ops.size).filter (lst listed))).app i o (es i)=stOf ops es s0 ((List.range ops.size).filter (lst (listed.setIfInBounds i true))):=by
   have h1:(stOf ops es s0 ((List.range ops.size).filter (lst listed))).app i o (es i)=stp ops es (stOf ops es s0 ((List.range ops.size).filter (lst listed))) i:=by grind [stp]
   rw [h1,e1,e2,stOf_append,stOf_append,stOf_cons]
   refine (stOf_last B _ (fun j hj=>?_)).symm
   obtain ⟨h2,h3⟩:=hB j hj
   refine ⟨by omega,fun oi oj hoi hoj=>?_⟩
   rcases D.pair i j oi oj h2 hoi hoj with h|h
   ·exact absurd (hcl j i h3 h) hnl
   grind
  rw [hstp] at hs'
  refine hKc β' a' w' (by grind) ?_ (closed_set hcl hilt ho hr) (hs'.fewer fun j hj=>?_)
  ·grind
  ·refine ⟨fun hl=>hj ((Li_set hilt j).2 (.inl hl)),fun e=>hj ((Li_set hilt j).2 (.inr e))⟩
 intro fuel
 induction fuel with
 | zero =>
  intro listed β a w hsz hlen hcl hs
  have hall:∀ j,j<ops.size→Li listed j:=by
   have e:(List.range ops.size).filter (lst listed)=List.range ops.size:=by grind [List.range,lst,List.filter_sublist]
   intro j hj
   have:=List.filter_eq_self.1 e j (List.mem_range.2 hj)
   exact this
  refine ⟨?_,whole listed β a w hsz hall hs⟩
  cases hr:Region.ready .any ops listed with
  | nil=>rfl
  | cons i l =>
   obtain ⟨h1,h2,_⟩:=ready_spec (ops:=ops) (listed:=listed) (i:=i) (by grind)
   grind
 | succ fuel ih =>
  intro listed β a w hsz hlen hcl hs
  refine ⟨fun hr=>?_,fun i hi=>step fuel listed β a w hsz hlen hcl hs i hi _ (fun β' a' w' h1 h2 h3 h4=>ih _ β' a' w' h1 h2 h3 h4)⟩
  refine whole listed β a w hsz (fun j hj=>?_) hs
  apply Classical.byContradiction
  intro hnot
  obtain ⟨i,h1,h2,h3⟩:=least_not (L:=Li listed) (n:=ops.size) (fun h=>hnot (h j hj))
  have ho:ops[i]? = some ops[i]:=by simp
  have:i∈Region.ready .any ops listed:=by
   refine mem_ready.2 ⟨?_,ops[i],ho,fun e he hbd=>h3 e.on (D.back i _ ho e he hbd)⟩
   grind
  grind
end
structure ASt where
  fr : Nat → AV
  H : Heap
  c : Nat
structure Sim (K : Ctx) (β : Book) (s : ASt) (a : Act) (w : World) : Prop where
  slot : ∀ n, Rel β w (s.fr n) (a.tmps.getD n undef)
  size : a.tmps.size = K.nt
  defers : Marks K a.defers w
  heap : ∀ id o, s.H id = some o → Holds β w o id
  inj : InjB β
  fresh : ∀ id, s.c ≤ id → β.m id = none
  live : ∀ id b n mu, β.m id = some (.lives b n mu) → (K.B ≤ b ∨ K.G b) ∧ b < w.heap.size
  giv : ∀ id o, K.b0 id = some o → ∃ o', β.m id = some o' ∧ o.later o'
  bF : β.F = K.F
  hF : ∀ b, K.F b → b < K.B ∧ ¬ K.G b
  kept : Kept K.B K.G K.w0 w
  hB : K.B ≤ w.heap.size
  glob : GlobB K.gl β w
def Opq (P:Program) (gl:Globs) (ng nt:Nat) (c:Code) (s s':ASt):Prop :=
 ∀ K β a w,K.P=P→K.gl=gl→K.nt=nt→(∀ id,ng≤id→K.b0 id=none)→K.qt=false→P.follows .mixedOrders=true→Sim K β s a w→c.wp P (fun e a' w'=>e=.normal∧∃ β',Sim K β' s' a' w') a w
inductive AExit where
  | normal
  | leave (id : Nat)
  | ret
inductive Tree where
  | bad (why : String)
  | fin (p : Prop)
  | br (b : Bool) (t e : Tree)
  | req (p : Prop) (t : Tree)
  | scall (g : Bool) (f : FuncId) (args : List AV) (k : AV → Tree)
  | dcall (g : Bool) (f : FuncId) (args : List AV) (k : AV → Tree)
  | gcall (f : FuncId) (n : Nat) (obs : List Ob) (args : List AV) (k : AV → List (Option Ob) → Tree)
  | loop (x : Code) (s : ASt) (k : ASt → (ASt → Prop) → Tree)
  | again (s : ASt) (p : ASt → Prop)
  | opq (ng nt : Nat) (c : Code) (s : ASt) (k : ASt → Tree)
  | out (v : Option (AV × List (Option Ob))) (r : AV) (obs : List (Option Ob))
def Has (os:List (Option Ob)) (β:Book):Prop:=∀ (k:Nat) o,os[k]? = some (some o)→β.m k≠none
def Ent (os:List (Option Ob)) (a b:AV):Prop:=∀ β w v,Has os β→Rel β w a v→Rel β w b v
theorem Ent.refl {os:List (Option Ob)} (a:AV):Ent os a a:=fun _ _ _ _ h=>h
theorem Ent.of_eq {os:List (Option Ob)} {a b:AV} (h:a=b):Ent os a b:=h▸Ent.refl a
theorem Ent.nil {os:List (Option Ob)} {k es i:Nat} {o:Ob} (h:os[k]? = some (some o)):Ent os .nsl (.osl k es i 0):=fun _ _ _ hh hr=>by
 cases hr
 exact .osl0 (hh k o h)
def tyc (f g:Rep):Bool:=match g with
 | .ty t _=>(match f with|.ty t' _=>Nat.beq t' noTy||Nat.beq t' t|_=>false)
 | _=>true
theorem tyc_refl (f:Rep):tyc f f=true:=by
 cases f with
 | ty t f=>exact Bool.or_eq_true_iff.2 (.inr (Nat.beq_refl _))
 | _=>rfl
theorem tyc_spec {f g:Rep} (h:tyc f g=true) {t:TypeId} (hg:g.tyOf=some t):f.tyOf=some noTy∨f.tyOf=some t:=by
 cases g with
 | ty t1 g1 =>
  cases hg
  cases f with
  | ty t2 f1 =>
   rcases Bool.or_eq_true_iff.1 h with h|h
   ·exact .inl (congrArg some (Nat.eq_of_beq_eq_true h))
   ·exact .inr (congrArg some (Nat.eq_of_beq_eq_true h))
  | _=>cases h
 | _=>cases hg
structure ObEnt (os : List (Option Ob)) (o o' : Ob) : Prop where
  es0 : (o.es, tyc o.f o'.f) = (o'.es, true)
  n : o.n = o'.n
  mu : o.mu = o'.mu
  f : ∀ i j, i < o.n → j < o.es → Ent os (o.f i j) (o'.f i j)
theorem ObEnt.es {os:List (Option Ob)} {o o':Ob} (h:ObEnt os o o'):o.es=o'.es:=(Prod.mk.inj h.es0).1
theorem SzOk.ent {os:List (Option Ob)} {o o':Ob} {b:Nat} {cs:Array Value} {el:TypeId} (h:ObEnt os o o') (k:SzOk b o.n o.es o.f cs el):SzOk b o'.n o'.es o'.f cs el :=
 ⟨by rw [← h.es,← h.n];exact k.le,fun t ht=>by
  rw [← h.es,← h.n]
  rcases tyc_spec (Prod.mk.inj h.es0).2 ht with e|e
  ·exact absurd rfl (k.ty _ e).1
  ·exact k.ty t e⟩
def ObsEnt (os:List (Option Ob)):List (Option Ob)→List (Option Ob)→Prop
 | [],[]=>True
 | _::l,none::l'=>ObsEnt os l l'
 | some o::l,some o'::l'=>ObEnt os o o'∧ObsEnt os l l'
 | _,_=>False
theorem ObsEnt.spec {os:List (Option Ob)}:∀ {l l':List (Option Ob)},ObsEnt os l l'→l.length=l'.length∧∀ (k:Nat) o',l'[k]? = some (some o')→∃ o,l[k]? = some (some o)∧ObEnt os o o'
 | [],[],_=>⟨rfl,fun k o' h=>by grind⟩
 | x::l,none::l',h=>by
  obtain ⟨h1,h2⟩:=ObsEnt.spec (l:=l) (l':=l') (by cases x<;>exact h)
  refine ⟨by simp [h1],fun k o' hk=>?_⟩
  cases k with
  | zero=>simp at hk
  | succ k=>simp at hk ⊢;exact h2 k o' hk
 | some o::l,some o'::l',h=>by
  obtain ⟨h1,h2⟩:=ObsEnt.spec h.2
  refine ⟨by simp [h1],fun k o2 hk=>?_⟩
  cases k with
  | zero=>simp at hk;subst hk;exact ⟨o,by simp,h.1⟩
  | succ k=>simp at hk ⊢;exact h2 k o2 hk
 | [],none::l',h=>h.elim
 | [],some o::l',h=>h.elim
 | none::l,[],h=>h.elim
 | some o::l,[],h=>h.elim
 | none::l,some o::l',h=>h.elim
def Tree.wp (P:Program) (gl:Globs) (le:ASt→ASt→Prop):Tree→Prop
 | .bad _=>False
 | .fin p=>p
 | .br b t e=>(b=true→t.wp P gl le)∧(b=false→e.wp P gl le)
 | .req p t=>p∧t.wp P gl le
 | .scall g f args k=>∃ r,(g=true→Pure P gl f args r)∧sc 9 r=true∧(k r).wp P gl le
 | .dcall g f args k=>∃ r,(g=true→Pure P gl f args r)∧(k r).wp P gl le
 | .gcall f n obs args k=>∃ r obs',Gives P gl f obs args r obs'∧(Nat.ble n obs'.length&&Nat.ble obs'.length (n+8))=true∧(k r obs').wp P gl le
 | .loop _ s k=>∃ (ι:Type) (S:ι→ASt) (m:ι→Nat) (i0:ι),le s (S i0)∧∀ i,(k (S i) (fun s'=>∃ i',le s' (S i')∧m i'<m i)).wp P gl le
 | .again s p=>p s
 | .opq ng nt c s k=>∃ s',Opq P gl ng nt c s s'∧(k s').wp P gl le
 | .out v r obs=>∃ x os,v=some (x,os)∧Ent os x r∧ObsEnt os os obs
def Rep.ids (g:AV→List Nat):Rep→List Nat
 | .lst l=>l.flatMap fun r=>r.flatMap g
 | .cat _ f h=>f.ids g++h.ids g
 | .put _ x f=>x.flatMap g++f.ids g
 | _=>[]
def rch:Nat→Heap→AV→List Nat
 | 0,_,_=>[]
 | n+1,H,.own id _ i j m=>id::(match H id with
  | some o=>(List.range m).flatMap (fun q=>rch n H (o.f i (j+q)))
  | none=>[])
 | _+1,_,.oel id _ _ _ _ _=>[id]
 | n+1,H,.osl id _ _ _=>id::(match H id with
  | some o=>o.f.ids (rch n H)
  | none=>[])
 | n+1,H,.agg cs=>cs.flatMap (rch n H)
 | n+1,H,.tup cs=>cs.flatMap (rch n H)
 | n+1,H,.fn _ fs cs=>fs.flatMap (rch n H)++cs.flatMap (rch n H)
 | n+1,H,.ifc _ v=>rch n H v
 | _+1,_,_=>[]
def dedup:List Nat→List Nat
 | []=>[]
 | x::l=>bif memN l x then dedup l else x::dedup l
def alive (H:Heap) (l:List Nat):List Nat:=dedup (l.filter fun id=>(H id).isSome)
def muOf (H:Heap) (id:Nat):Bool:=match H id with|some o=>o.mu|none=>false
def tagNone:Tag→Bool|none=>true|some _=>false
def scT (P:Program):Nat→TypeId→Bool
 | 0,_=>false
 | n+1,t=>match P.underlying t with
  | some .bool|some (.int _)|some .string=>true
  | some (.struct fs)=>fs.all (fun f=>scT P n f.type)
  | some (.array _ e)=>scT P n e
  | some (.tuple ts)=>ts.all (scT P n)
  | _=>false
def idOf:AV→List Nat
 | .own id _ _ _ _=>[id]
 | .osl id _ _ _=>[id]
 | .oel id _ _ _ _ _=>[id]
 | _=>[]
def footOf (ρ:Operand→AV):Op→Foot
 | .load _ a=>⟨idOf (ρ a),[],[]⟩
 | .store _ a _=>⟨idOf (ρ a),[],idOf (ρ a)⟩
 | .nilCheck x=>⟨[],idOf (ρ x),[]⟩
 | .binOp _ _ x _ _=>⟨[],idOf (ρ x),[]⟩
 | .convert s d x=>⟨idOf (ρ x),[],bif Nat.beq s d then idOf (ρ x) else []⟩
 | .fieldAddr _ x _=>⟨[],idOf (ρ x),[]⟩
 | .indexAddr _ x _=>⟨[],idOf (ρ x),[]⟩
 | .slice _ x _ _ _=>⟨[],idOf (ρ x),[]⟩
 | .call { callee:=.builtin .append,args:=args,.. }=>⟨args.toList.flatMap (fun x=>idOf (ρ x)),[],match args.toList with|x::_=>idOf (ρ x)|[]=>[]⟩
 | .call { callee:=.builtin _,args:=args,.. }=>⟨[],args.toList.flatMap (fun x=>idOf (ρ x)),[]⟩
 | _=>⟨[],[],[]⟩
def footSl (ρ:Operand→AV):Op→Foot
 | .slice _ x _ _ _=>⟨idOf (ρ x),[],[]⟩
 | _=>⟨[],[],[]⟩
def maskedIds (H:Heap):List Bool→List AV→List Nat
 | true::m,a::as=>rch 9 H a++maskedIds H m as
 | false::m,_::as=>maskedIds H m as
 | _,_=>[]
def mkReq (γ:Tag) (g:Bool) (q:Rq) (t:Tree):Tree :=
 match q with
 | .no=>t
 | .yes p=>match γ with
  | none=>.req p t
  | some _=>.req (g=true→p) t
def brG (γ:Tag) (g:Bool) (t e:Tree):Tree:=match γ with|none=>t|some _=>.br g t e
def defV (P:Program) (t:TypeId):AV:=match P.underlying t with|some .bool=>.bool false|some (.int k)=>.int k 0|_=>.junk
def rtree (C:Cfg) (ops:Array Oper) (draw:Bool) (c:Nat):List Oper→Nat→RSt→List (Foot×Eff)→(RSt→Tree)→Tree
 | [],_,s,acc,k=>bif !draw||drawOk ops acc.reverse then k s else .bad "draw"
 | o::rest,i,s,acc,k =>
  bif okOp C.nt ops s o then
   match calleeOf (ev C.gl s.fr) o.op with
   | some (fn,as)=>match C.own fn with
    | some mask =>
     bif (tagNone o.guard || !draw)&&(nodupB ((alive s.H (maskedIds s.H mask as)).filter (muOf s.H))&&((alive s.H (maskedIds s.H mask as)).filter (muOf s.H)).all (fun id=>tagNone (s.ht id))) then
      brG o.guard (s.G o.guard) (.gcall fn ((alive s.H (maskedIds s.H mask as)).filter (muOf s.H)).length
       (givenObs ((alive s.H (maskedIds s.H mask as)).filter (muOf s.H)) (vH ⟨alive s.H (as.flatMap (rch 9 s.H)),[],(alive s.H (maskedIds s.H mask as)).filter (muOf s.H)⟩ s.H))
       (as.map (mapA (posIn ((alive s.H (maskedIds s.H mask as)).filter (muOf s.H)) 0) 9 (restH ((alive s.H (maskedIds s.H mask as)).filter (muOf s.H)) (vH ⟨alive s.H (as.flatMap (rch 9 s.H)),[],(alive s.H (maskedIds s.H mask as)).filter (muOf s.H)⟩ s.H))))
       (fun r obs' =>
        bif ((alive s.H (maskedIds s.H mask as)).filter (muOf s.H)).all (fun id=>memN (alive s.H (as.flatMap (rch 9 s.H))) id) then
         rtree C ops draw c rest (i+1)
          (s.app i o.bare ⟨mapA (backIds ((alive s.H (maskedIds s.H mask as)).filter (muOf s.H)) (c+8*i)) 9 noH r,true,[],givenDs ((alive s.H (maskedIds s.H mask as)).filter (muOf s.H)) (c+8*i) obs',alive s.H (as.flatMap (rch 9 s.H))⟩)
          ((⟨alive s.H (as.flatMap (rch 9 s.H)),[],(alive s.H (maskedIds s.H mask as)).filter (muOf s.H)⟩,
           ⟨mapA (backIds ((alive s.H (maskedIds s.H mask as)).filter (muOf s.H)) (c+8*i)) 9 noH r,true,[],givenDs ((alive s.H (maskedIds s.H mask as)).filter (muOf s.H)) (c+8*i) obs',alive s.H (as.flatMap (rch 9 s.H))⟩)::acc) k
        else .bad "given"))
       (rtree C ops draw c rest (i+1) (s.app i o ⟨defV C.P o.type,false,[],[],[]⟩) ((⟨[],[],[]⟩,⟨defV C.P o.type,false,[],[],[]⟩)::acc) k)
     else .bad "given"
    | none =>
     bif scT C.P 9 o.type then
      .scall (s.G o.guard) fn (as.map (frz 9 (vH ⟨alive s.H (as.flatMap (rch 9 s.H)),[],[]⟩ s.H)))
       (fun r=>rtree C ops draw c rest (i+1) (s.app i o ⟨r,s.G o.guard,[],[],[]⟩) ((⟨alive s.H (as.flatMap (rch 9 s.H)),[],[]⟩,⟨r,s.G o.guard,[],[],[]⟩)::acc) k)
     else
      .dcall (s.G o.guard) fn (as.map (frz 9 (vH ⟨alive s.H (as.flatMap (rch 9 s.H)),[],[]⟩ s.H)))
       (fun r=>rtree C ops draw c rest (i+1) (s.app i o ⟨r,s.G o.guard,[],[],alive s.H (as.flatMap (rch 9 s.H))⟩) ((⟨alive s.H (as.flatMap (rch 9 s.H)),[],[]⟩,⟨r,s.G o.guard,[],[],alive s.H (as.flatMap (rch 9 s.H))⟩)::acc) k)
   | none=>match estep C.P (ev C.gl s.fr) (vH (footOf (ev C.gl s.fr) o.op) s.H) o.op with
    | some (id,f') =>
     bif tagNone o.guard&&(memN (footOf (ev C.gl s.fr) o.op).mt id&&(muOf s.H id&&tagNone (s.ht id))) then
      rtree C ops draw c rest (i+1) (s.app i o ⟨.junk,true,[(id,f')],[],[]⟩) ((footOf (ev C.gl s.fr) o.op,⟨.junk,true,[(id,f')],[],[]⟩)::acc) k
     else .bad "a store"
    | none=>match astep C.P (ev C.gl s.fr) (vH (footOf (ev C.gl s.fr) o.op) s.H) (c+8*i) o.op with
     | some (q,v,ids,x) =>
      bif tagNone o.guard&&ids.all (fun id=>memN (footOf (ev C.gl s.fr) o.op).mt id&&(muOf s.H id&&tagNone (s.ht id))) then
       .req q (rtree C ops draw c rest (i+1) (s.app i o ⟨v,true,[],(c+8*i,some x)::ids.map (fun id=>(id,none)),[]⟩) ((footOf (ev C.gl s.fr) o.op,⟨v,true,[],(c+8*i,some x)::ids.map (fun id=>(id,none)),[]⟩)::acc) k)
      else .bad "append"
     | none=>match mstep C.P (ev C.gl s.fr) (vH (footOf (ev C.gl s.fr) o.op) s.H) (c+8*i) o.op with
      | some (q,v,ob)=>mkReq o.guard (s.G o.guard) q (rtree C ops draw c rest (i+1) (s.app i o ⟨v,s.G o.guard,[],obDs (c+8*i) ob,[]⟩) ((footOf (ev C.gl s.fr) o.op,⟨v,s.G o.guard,[],obDs (c+8*i) ob,[]⟩)::acc) k)
      | none=>match slstep C.P (ev C.gl s.fr) (vH (footSl (ev C.gl s.fr) o.op) s.H) o.op with
       | some (q,id,v)=>mkReq o.guard (s.G o.guard) q (rtree C ops draw c rest (i+1) (s.app i o ⟨v,s.G o.guard,[],[],[id]⟩) ((footSl (ev C.gl s.fr) o.op,⟨v,s.G o.guard,[],[],[id]⟩)::acc) k)
       | none=>.bad o.pos
  else .bad o.pos
theorem mkReq_wp {P:Program} {gl:Globs} {le:ASt→ASt→Prop} {γ:Tag} {g:Bool} {q:Rq} {t:Tree} (h:(mkReq γ g q t).wp P gl le):(g=true→q.holds)∧t.wp P gl le:=by
 cases q with
 | no=>exact ⟨fun _=>trivial,h⟩
 | yes p =>
  cases γ with
  | none=>exact ⟨fun _=>h.1,h.2⟩
  | some x=>exact ⟨h.1,h.2⟩
theorem tagNone_eq {γ:Tag} (h:tagNone γ=true):γ=none:=by cases γ with|none=>rfl|some x=>cases h
theorem muOf_eq {H:Heap} {id:Nat} (h:muOf H id=true):(H id).map Ob.mu=some true:=by grind [muOf,id]
theorem vH_rd {ids mt:List Nat} {H:Heap} {id:Nat} (h:vH ⟨ids,[],mt⟩ H id≠none):memN ids id=true:=by
 cases hm:memN ids id with
 | true=>rfl
 | false=>exact absurd (by simp only [vH,hm,cond_false];rfl) h
theorem rtree_lex {C:Cfg} {le:ASt→ASt→Prop} {ops:Array Oper} {draw:Bool} {c:Nat} {k:RSt→Tree}:∀ (l:List Oper) (i:Nat) (s:RSt) (acc:List (Foot×Eff)),(rtree C ops draw c l i s acc k).wp C.P C.gl le →
  lex C ops draw c l i s acc (fun s' acc'=>(draw=true→drawOk ops acc'.reverse=true)∧(k s').wp C.P C.gl le):=by
 intro l
 induction l with
 | nil =>
  intro i s acc h
  simp only [rtree] at h
  cases hd:(!draw||drawOk ops acc.reverse) with
  | false=>simp only [hd,cond_false] at h;exact h.elim
  | true =>
   simp only [hd,cond_true] at h
   refine ⟨fun hdr=>?_,h⟩
   grind
 | cons o rest ih =>
  intro i s acc h
  simp only [rtree] at h
  cases hok:okOp C.nt ops s o with
  | false=>simp only [hok,cond_false] at h;exact h.elim
  | true =>
   simp only [hok,cond_true] at h
   refine ⟨hok,?_⟩
   cases hc:calleeOf (ev C.gl s.fr) o.op with
   | some fa =>
    obtain ⟨fn,as⟩:=fa
    simp only [hc] at h
    cases hown:C.own fn with
    | some mask =>
     simp only [hown] at h
     generalize hgids:(alive s.H (maskedIds s.H mask as)).filter (muOf s.H)=gids at h
     generalize hall:alive s.H (as.flatMap (rch 9 s.H))=all at h
     cases hb:((tagNone o.guard || !draw)&&(nodupB gids&&gids.all (fun id=>tagNone (s.ht id)))) with
     | false=>simp only [hb,cond_false] at h;exact h.elim
     | true =>
      simp only [hb,cond_true] at h
      simp only [Bool.and_eq_true] at hb
      obtain ⟨hb1,hb2,hb3⟩:=hb
      have hmu:∀ id,id∈gids→(s.H id).map Ob.mu=some true:=fun id hid=>by
       rw [← hgids] at hid
       exact muOf_eq (List.mem_filter.1 hid).2
      cases hg:o.guard with
      | none =>
       rw [hg] at h
       simp only [brG] at h
       obtain ⟨r,obs',hG,hlen,h⟩:=h
       cases hb4:gids.all (fun id=>memN all id) with
       | false=>simp only [hb4,cond_false] at h;exact h.elim
       | true =>
        simp only [hb4,cond_true] at h
        rw [Bool.and_eq_true,Nat.ble_eq,Nat.ble_eq] at hlen
        have eo:o.bare=o:=by cases o;simp only at hg;subst hg;rfl
        rw [eo] at h
        exact .inl ⟨_,_,.gv hg hc hb2 (fun id hid=>⟨List.all_eq_true.1 hb4 id hid,memN_iff.2 hid,hmu id hid,tagNone_eq (List.all_eq_true.1 hb3 id hid)⟩) (fun id hv _=>vH_rd hv) hlen hG,ih _ _ _ h⟩
      | some jb =>
       rw [hg] at h hb1
       have hd:draw=false:=by cases draw with|false=>rfl|true=>cases hb1
       refine .inr ⟨hd,fun hGt=>?_,fun hGf=>?_⟩
       ·obtain ⟨r,obs',hG,hlen,h⟩:=h.1 hGt
        cases hb4:gids.all (fun id=>memN all id) with
        | false=>simp only [hb4,cond_false] at h;exact h.elim
        | true =>
         simp only [hb4,cond_true] at h
         rw [Bool.and_eq_true,Nat.ble_eq,Nat.ble_eq] at hlen
         exact ⟨_,_,⟨fn,as,gids,_,r,obs',hc,hb2,fun id hid=>⟨List.all_eq_true.1 hb4 id hid,memN_iff.2 hid,hmu id hid,tagNone_eq (List.all_eq_true.1 hb3 id hid)⟩,fun id hv _=>vH_rd hv,hlen,hG,rfl⟩,ih _ _ _ h⟩
       ·exact ⟨_,_,ih _ _ _ (h.2 hGf)⟩
    | none =>
     simp only [hown] at h
     cases hsc:scT C.P 9 o.type with
     | true =>
      simp only [hsc,cond_true] at h
      obtain ⟨r,h1,h2,h3⟩:=h
      exact .inl ⟨_,_,.sc hc h1 h2,ih _ _ _ h3⟩
     | false =>
      simp only [hsc,cond_false] at h
      obtain ⟨r,h1,h3⟩:=h
      exact .inl ⟨_,_,.dc _ (fun id hv=>vH_rd hv) hc h1,ih _ _ _ h3⟩
   | none =>
    simp only [hc] at h
    cases he:estep C.P (ev C.gl s.fr) (vH (footOf (ev C.gl s.fr) o.op) s.H) o.op with
    | some x =>
     obtain ⟨id,f'⟩:=x
     simp only [he] at h
     cases hb:(tagNone o.guard&&(memN (footOf (ev C.gl s.fr) o.op).mt id&&(muOf s.H id&&tagNone (s.ht id)))) with
     | false=>simp only [hb,cond_false] at h;exact h.elim
     | true =>
      simp only [hb,cond_true] at h
      simp only [Bool.and_eq_true] at hb
      obtain ⟨hb1,hb2,hb3,hb4⟩:=hb
      exact .inl ⟨_,_,.st (tagNone_eq hb1) he hb2 (muOf_eq hb3) (tagNone_eq hb4),ih _ _ _ h⟩
    | none =>
     simp only [he] at h
     cases ha:astep C.P (ev C.gl s.fr) (vH (footOf (ev C.gl s.fr) o.op) s.H) (c+8*i) o.op with
     | some x =>
      obtain ⟨q,v,ids,x⟩:=x
      simp only [ha] at h
      cases hb:(tagNone o.guard&&ids.all (fun id=>memN (footOf (ev C.gl s.fr) o.op).mt id&&(muOf s.H id&&tagNone (s.ht id)))) with
      | false=>simp only [hb,cond_false] at h;exact h.elim
      | true =>
       simp only [hb,cond_true] at h
       rw [Bool.and_eq_true] at hb
       obtain ⟨hq,h⟩:=h
       refine .inl ⟨_,_,.ap (tagNone_eq hb.1) ha hq (fun id hid=>?_),ih _ _ _ h⟩
       have:=List.all_eq_true.1 hb.2 id hid
       simp only [Bool.and_eq_true] at this
       exact ⟨this.1,muOf_eq this.2.1,tagNone_eq this.2.2⟩
     | none =>
      simp only [ha] at h
      cases hm:mstep C.P (ev C.gl s.fr) (vH (footOf (ev C.gl s.fr) o.op) s.H) (c+8*i) o.op with
      | some x =>
       obtain ⟨q,v,ob⟩:=x
       simp only [hm] at h
       obtain ⟨h1,h2⟩:=mkReq_wp h
       exact .inl ⟨_,_,.m hm h1,ih _ _ _ h2⟩
      | none =>
       simp only [hm] at h
       cases hsl:slstep C.P (ev C.gl s.fr) (vH (footSl (ev C.gl s.fr) o.op) s.H) o.op with
       | some x =>
        obtain ⟨q,id,v⟩:=x
        simp only [hsl] at h
        obtain ⟨h1,h2⟩:=mkReq_wp h
        exact .inl ⟨_,_,.sl hsl h1,ih _ _ _ h2⟩
       | none=>simp only [hsl] at h;exact h.elim
def ASt.toR (s:ASt):RSt:=⟨s.fr,fun _=>none,fun _=>none,s.H,fun _=>none⟩
def RSt.toA (r:RSt) (c:Nat):ASt :=
 ⟨fun n=>match r.tg n with|none=>r.fr n|some _=>.junk,fun id=>match r.ht id with|none=>r.H id|some _=>none,c⟩
theorem Sim.toR {K:Ctx} {β:Book} {s:ASt} {a:Act} {w:World} (h:Sim K β s a w) (ops:Array Oper):RSim K ops s.c (fun _=>True) β s.toR a w :=
 ⟨⟨fun id o ho _=>h.heap id o ho,fun id o ho hg=>by grind [ASt.toR,RSt.G],h.inj,fun id hid=>h.fresh id (by omega),fun i k _ _=>h.fresh _ (by omega),h.live,h.giv,h.bF,h.hF,h.kept,h.hB,h.glob⟩,
   ⟨fun n=>⟨fun _=>h.slot n,fun hg=>by grind [ASt.toR,RSt.G]⟩,h.size,h.defers,fun j g b hj=>by grind [ASt.toR],fun j o k b hj=>absurd rfl hj,fun n j b hn=>by grind [ASt.toR],fun n j b hn=>by grind [ASt.toR],fun _ _=>rfl⟩⟩
theorem RSim.toA {K:Ctx} {ops:Array Oper} {c:Nat} {E:Nat→Prop} {β:Book} {r:RSt} {a:Act} {w:World} (h:RSim K ops c E β r a w):Sim K β (r.toA (c+8*ops.size)) a w:=by
 refine ⟨fun n=>?_,h.f.size,h.f.defers,fun id o ho=>?_,h.h.inj,h.h.fresh,h.h.live,h.h.giv,h.h.bF,h.h.hF,h.h.kept,h.h.hB,h.h.glob⟩
 ·cases ht:r.tg n with
  | none=>simp only [RSt.toA,ht];exact (h.f.slot n).1 (by rw [ht];rfl)
  | some x=>simp only [RSt.toA,ht];exact .junk
 ·cases ht:r.ht id with
  | none=>simp only [RSt.toA,ht] at ho;exact h.h.heap id o ho (by show r.G (r.ht id)=true;rw [ht];rfl)
  | some x=>grind [RSt.toA]
def dstsOk (ops:Array Oper):Bool :=
 (List.range ops.size).all fun j=>match ops[j]? with
  | some oj=>match oj.dst with
   | some d=>(List.range j).all fun i=>match ops[i]? with
    | some oi=>(match oi.dst with|some e => !Nat.beq d e|none=>true)
    | none=>true
   | none=>true
  | none=>true
theorem dstsOk_spec {ops:Array Oper} (h:dstsOk ops=true):∀ (i j:Nat) (oi oj:Oper) (d:Tmp),ops[i]? = some oi→ops[j]? = some oj→oi.dst=some d→oj.dst=some d→i=j:=by
 have key:∀ (i j:Nat) (oi oj:Oper) (d:Tmp),i<j→ops[i]? = some oi→ops[j]? = some oj→oi.dst=some d→oj.dst=some d→False:=by
  intro i j oi oj d hij hi hj hdi hdj
  have hlt:j<ops.size:=(Array.getElem?_eq_some_iff.1 hj).1
  have h1:=List.all_eq_true.1 h j (List.mem_range.2 hlt)
  simp only [hj,hdj] at h1
  have h2:=List.all_eq_true.1 h1 i (List.mem_range.2 hij)
  simp_all
 grind
theorem region_core {K:Ctx} {C:Cfg} {ops:Array Oper} {draw:Bool} {s:ASt} {β:Book} {a:Act} {w:World} {k:RSt→Tree} {le:ASt→ASt→Prop} {Q:Exit→Act→World→Prop} (hP:C.P=K.P) (hgl:C.gl=K.gl) (hnt:C.nt=K.nt)
  (hd:dstsOk ops=true) (h:(rtree C ops draw s.c ops.toList 0 s.toR [] k).wp C.P C.gl le) (hs:Sim K β s a w)
  (hQ:∀ β r a w,RSim K ops s.c (fun j=>ops.size≤j) β r a w→(k r).wp C.P C.gl le→Q .normal a w) :
  (draw=false→wpOps K.P ops Q (List.range ops.size) a w)∧(draw=true→wpAny K.P .any ops Q ops.size (Array.replicate ops.size false) a { w with drawn:=w.drawn+1 }):=by
 have hlex:=rtree_lex _ _ _ _ h
 have hone:OneDst ops:=dstsOk_spec hd
 cases draw with
 | false =>
  refine ⟨fun _=>?_,fun h=>by cases h⟩
  have:=lex_ok hP hgl hnt hone (Q:=Q) (fun β r acc a w hr hX=>hQ β r a w hr hX.2) ops.toList 0 s.toR [] β a w (by simp) (by simp) hlex ((hs.toR ops).fewer fun _ _=>trivial)
  grind [List.range_eq_range']
 | true =>
  refine ⟨fun h=>(by cases h),fun _=>?_⟩
  obtain ⟨es,fs,h1,h2,h3⟩:=lex_states ops.toList 0 s.toR [] (by simp) hlex
  have hr:∀ n,List.range' 0 n=List.range n:=fun n=>List.range_eq_range'.symm
  have hdo:drawOk ops ((List.range ops.size).map fun j=>(fs j,es j))=true:=by grind
  have D:Drawn K C ops s.c es fs s.toR Q:=⟨hP,hgl,hnt,fun j oj hj=>(drawOk_spec hdo hj).1,fun i j oi oj hij hi hj=>(drawOk_spec hdo hj).2 i oi hij hi,
   fun j o ho=>by grind,hone,fun β a w hsim=>hQ β _ a w (by omega) (by grind)⟩
  have hs0:Sim K β s a { w with drawn:=w.drawn+1 }:=by
   have hk:Keeps β w β { w with drawn:=w.drawn+1 }:=⟨fun _ o h=>⟨o,h,o.later_refl⟩,fun _ _ _=>rfl,fun _ _ h=>h,fun _ _ _ h=>h⟩
   exact ⟨fun n=>(hs.slot n).keep hk,hs.size,hs.defers,fun id o ho=>(hs.heap id o ho).imp (fun ⟨b,h1,h2⟩=>⟨b,h1,h2.keep hk rfl⟩) (fun h=>h),hs.inj,hs.fresh,hs.live,hs.giv,hs.bF,hs.hF,
    ⟨hs.kept.os,hs.kept.tape,hs.kept.output,hs.kept.size,hs.kept.block,hs.kept.shape,hs.kept.othr⟩,hs.hB,fun g m h hgl=>(hs.glob g m h hgl).keep hk⟩
  have hl0:∀ j,lst (Array.replicate ops.size false) j=false:=by
   intro j
   simp only [lst,Array.getD_eq_getD_getElem?]
   grind
  have hf:(List.range ops.size).filter (lst (Array.replicate ops.size false))=[]:=List.filter_eq_nil_iff.2 (fun j _=>by grind)
  refine any_ok D ops.size _ β a _ (by simp) (by grind) (fun i j hi=>?_) ?_
  ·simp_all
  ·rw [hf]
   exact (hs0.toR ops).fewer fun _ _=>trivial
theorem region_ok {K:Ctx} {C:Cfg} {ops:Array Oper} {id:Nat} {draw:Bool} {s:ASt} {β:Book} {a:Act} {w:World} {k:RSt→Tree} {le:ASt→ASt→Prop} {Q:Exit→Act→World→Prop} (hP:C.P=K.P) (hgl:C.gl=K.gl) (hnt:C.nt=K.nt)
  (hm:K.P.follows .mixedOrders=true) (hd:dstsOk ops=true) (h:(rtree C ops draw s.c ops.toList 0 s.toR [] k).wp C.P C.gl le) (hs:Sim K β s a w)
  (hQ:∀ β r a w,RSim K ops s.c (fun j=>ops.size≤j) β r a w→(k r).wp C.P C.gl le→Q .normal a w):(Code.region id ops draw).wp K.P Q a w:=by
 obtain ⟨h1,h2⟩:=region_core hP hgl hnt hd h hs hQ
 cases draw with
 | false=>exact wp_region (h1 rfl)
 | true=>exact wp_region_any hm (h2 rfl)
def Le (ng:Nat) (s t:ASt):Prop:=∀ K β a w,(∀ id,ng≤id→K.b0 id=none)→Sim K β s a w→∃ β',Sim K β' t a w
def hasUpd (ops:Array Oper):Bool:=ops.toList.any fun o=>match o.op with|.mapUpdate .. => true|_=>false
def unr (body:(ASt→Tree)→ASt→Tree):List Bool→ASt→Tree
 | [],_=>.bad "rounds"
 | _::l,s=>body (unr body l) s
def hasLoop:Code→Bool
 | .loop _=>true
 | .seq x y=>hasLoop x||hasLoop y
 | .cond _ x y=>hasLoop x||hasLoop y
 | .block _ x=>hasLoop x
 | _=>false
def rounds (C:Cfg) (x:Code):Option (List Bool):=match C.own 999999999 with
 | none=>none
 | some l=>match C.own 999999998 with
  | none=>some l
  | some _=>bif hasLoop x then none else some l
def run (C:Cfg):Code→(AExit→ASt→Tree)→ASt→Tree
 | .skip,k,s=>k .normal s
 | .label _,k,s=>k .normal s
 | .region id ops draw,k,s =>
  bif hasUpd ops then .opq C.ng C.nt (.region id ops draw) s (fun s'=>k .normal s')
  else bif dstsOk ops then rtree C ops draw s.c ops.toList 0 s.toR [] (fun r=>k .normal (r.toA (s.c+8*ops.size))) else .bad "region"
 | .seq x y,k,s=>run C x (fun e s'=>match e with|.normal=>run C y k s'|.leave id=>k (.leave id) s'|.ret=>k .ret s') s
 | .cond c x y,k,s=>match ev C.gl s.fr c with
  | .bool b=>.br b (run C x k s) (run C y k s)
  | _=>.bad "cond"
 | .block id x,k,s=>run C x (fun e s'=>match e with|.normal=>k .normal s'|.leave j=>bif Nat.beq j id then k .normal s' else k (.leave j) s'|.ret=>k .ret s') s
 | .exit id,k,s=>k (.leave id) s
 | .ret,k,s=>k .ret s
 | .loop x,k,s=>match rounds C x with
  | some l=>unr (fun again s=>run C x (fun e s'=>match e with|.normal=>again s'|.leave id=>k (.leave id) s'|.ret=>k .ret s') s) l s
  | none=>.loop x s (fun S p=>run C x (fun e s'=>match e with|.normal=>.again s' p|.leave id=>k (.leave id) s'|.ret=>k .ret s') S)
 | .rangeFunc g ps x y,k,s=>.opq C.ng C.nt (.rangeFunc g ps x y) s (fun s'=>k .normal s')
 | _,_,_=>.bad "code"
def exitOf:Exit→Option AExit
 | .normal=>some .normal
 | .exit id=>some (.leave id)
 | .ret=>some .ret
 | _=>none
def Final (K:Ctx) (C:Cfg) (k:AExit→ASt→Tree):Exit→Act→World→Prop:=fun e a w=>∃ β s ae,exitOf e=some ae∧Sim K β s a w∧(k ae s).wp C.P C.gl (Le C.ng)
theorem run_sound {K:Ctx} {C:Cfg} (hP:C.P=K.P) (hgl:C.gl=K.gl) (hnt:C.nt=K.nt) (hng:∀ id,C.ng≤id→K.b0 id=none) (hqt:K.qt=false) (hm:K.P.follows .mixedOrders=true) (x:Code) :
  ∀ (k:AExit→ASt→Tree) (s:ASt) (β:Book) (a:Act) (w:World),(run C x k s).wp C.P C.gl (Le C.ng)→Sim K β s a w→x.wp K.P (Final K C k) a w:=by
 induction x with
 | skip=>intro k s β a w h hs;exact wp_skip ⟨β,s,.normal,rfl,hs,h⟩
 | label l=>intro k s β a w h hs;exact wp_label ⟨β,s,.normal,rfl,hs,h⟩
 | exit id=>intro k s β a w h hs;exact wp_exit ⟨β,s,.leave id,rfl,hs,h⟩
 | ret=>intro k s β a w h hs;exact wp_ret ⟨β,s,.ret,rfl,hs,h⟩
 | goto l=>intro k s β a w h hs;exact h.elim
 | scope b=>intro k s β a w h hs;exact h.elim
 | refuse w=>intro k s β a w h hs;exact h.elim
 | rangeFunc f p x y =>
  intro k s β a w h hs
  obtain ⟨s',ho,hk⟩:=h
  have:=ho K β a w hP.symm hgl.symm hnt.symm hng hqt (hP▸hm) hs
  rw [hP] at this
  refine wp_mono this ?_
  rintro e a' w' ⟨rfl,β',hs'⟩
  exact ⟨β',s',.normal,rfl,hs',hk⟩
 | region id ops draw =>
  intro k s β a w h hs
  simp only [run] at h
  cases hu:hasUpd ops with
  | true =>
   simp only [hu,cond_true] at h
   obtain ⟨s',ho,hk⟩:=h
   have:=ho K β a w hP.symm hgl.symm hnt.symm hng hqt (hP▸hm) hs
   rw [hP] at this
   refine wp_mono this ?_
   rintro e a' w' ⟨rfl,β',hs'⟩
   exact ⟨β',s',.normal,rfl,hs',hk⟩
  | false =>
  simp only [hu,cond_false] at h
  cases hc:dstsOk ops with
  | false=>simp only [hc,cond_false] at h;exact h.elim
  | true =>
   simp only [hc,cond_true] at h
   refine region_ok hP hgl hnt hm hc h hs (fun β' r a' w' hr hX=>?_)
   exact ⟨β',_,.normal,rfl,hr.toA,hX⟩
 | seq x y ihx ihy =>
  intro k s β a w h hs
  refine wp_seq (wp_mono (ihx _ s β a w h hs) ?_)
  rintro e a' w' ⟨β',s',ae,he,hs',hk⟩
  cases e<;>simp only [exitOf,reduceCtorEq,Option.some.injEq] at he
  ·subst he;exact ihy k s' β' a' w' hk hs'
  ·subst he;exact ⟨β',s',_,rfl,hs',hk⟩
  ·subst he;exact ⟨β',s',_,rfl,hs',hk⟩
 | cond c x y ihx ihy =>
  intro k s β a w h hs
  simp only [run] at h
  split at h
  ·rename_i b hb
   have hrel:Rel β w (ev K.gl s.fr c) (a.eval c):=by
    have:=rel_ev (hs.toR #[]) (x:=c) (fun t _=>rfl)
    exact this
   rw [← hgl,hb] at hrel
   have hv:=rel_bool_inv hrel
   refine wp_cond_split hv (fun ht=>ihx k s β a w (h.1 ht) hs) (fun hf=>ihy k s β a w (h.2 hf) hs)
  ·exact h.elim
 | block id x ih =>
  intro k s β a w h hs
  refine wp_block (wp_mono (ih _ s β a w h hs) ?_)
  rintro e a' w' ⟨β',s',ae,he,hs',hk⟩
  cases e<;>simp only [exitOf,reduceCtorEq,Option.some.injEq] at he
  ·subst he;exact ⟨β',s',_,rfl,hs',hk⟩
  ·rename_i j
   subst he
   simp only [Exit.inBlock]
   by_cases e:j=id
   ·subst e
    rw [if_pos rfl]
    simp only [Nat.beq_refl,cond_true] at hk
    exact ⟨β',s',.normal,rfl,hs',hk⟩
   ·rw [if_neg e]
    have hb:Nat.beq j id=false:=by grind [Nat.beq,id,absurd,Nat.eq_of_beq_eq_true]
    simp only [hb,cond_false] at hk
    exact ⟨β',s',.leave j,rfl,hs',hk⟩
  ·subst he;exact ⟨β',s',_,rfl,hs',hk⟩
 | loop x ih =>
  intro k s β a w h hs
  simp only [run] at h
  cases hun:rounds C x with
  | some l =>
   simp only [hun] at h
   refine wp_loop_rounds l.length ?_
   clear hun
   induction l generalizing s β a w with
   | nil=>exact h.elim
   | cons b l ihl =>
    refine wp_mono (ih _ s β a w h hs) ?_
    rintro e a' w' ⟨β',s',ae,he,hs',hk⟩
    cases e<;>simp only [exitOf,reduceCtorEq,Option.some.injEq] at he
    ·subst he;exact ihl s' β' a' w' hs' hk
    ·subst he;exact ⟨β',s',_,rfl,hs',hk⟩
    ·subst he;exact ⟨β',s',_,rfl,hs',hk⟩
  | none =>
  simp only [hun] at h
  obtain ⟨ι,S,m,i0,hle,hround⟩:=h
  refine wp_loop_ghost (fun n a w=>∃ i β,m i=n∧Sim K β (S i) a w) (m i0) ?_ ?_
  ·obtain ⟨β',hs'⟩:=hle K β a w hng hs
   grind
  ·rintro n a' w' ⟨i,β',rfl,hs'⟩
   refine wp_mono (ih _ (S i) β' a' w' (hround i) hs') ?_
   rintro e a'' w'' ⟨β2,s2,ae,he,hs2,hk⟩
   cases e<;>simp only [exitOf,reduceCtorEq,Option.some.injEq] at he
   ·subst he
    obtain ⟨i',hle',hlt⟩:=hk
    obtain ⟨β3,hs3⟩:=hle' K β2 a'' w'' hng hs2
    exact ⟨m i',hlt,i',β3,rfl,hs3⟩
   ·subst he;exact ⟨β2,s2,_,rfl,hs2,hk⟩
   ·subst he;exact ⟨β2,s2,_,rfl,hs2,hk⟩
def resOne (P:Program) (s:ASt):ResultVar→Option AV
 | .tmp t=>some (s.fr t)
 | .cell a t=>match s.fr a with
  | .own id es i j m=>match s.H id with
   | some o=>bif Nat.beq o.es es then readT P t m (fun k=>o.f i (j+k)) else none
   | none=>none
  | _=>none
def resAll (P:Program) (s:ASt):List ResultVar→Option (List AV)
 | []=>some []
 | x::xs=>match resOne P s x,resAll P s xs with
  | some v,some vs=>some (v::vs)
  | _,_=>none
def resA (P:Program) (fn:Func) (s:ASt):Option AV :=
 match resAll P s fn.results.toList with
 | some [v]=>some v
 | some vs=>some (.tup vs)
 | none=>none
def resSem (tmps:Array Value):ResultVar→Sem Value
 | .tmp t=>pure (tmps.getD t undef)
 | .cell a t=>do loadVar t (← asAddr (tmps.getD a undef))
theorem results_eq (fn:Func) (tmps:Array Value):results fn tmps=(do let vs ← fn.results.mapM (resSem tmps);pure (if h:vs.size=1 then vs[0] else .tuple vs)):=by
 rfl
theorem Sim.ok {K:Ctx} {β:Book} {s:ASt} {a:Act} {w:World} (hs:Sim K β s a w):HeapOk β w s.H:=fun id ob hid _=>by
 rcases hs.heap id ob hid with ⟨b,h1,h2⟩|h
 ·grind
 grind
theorem resOne_ok {K:Ctx} {β:Book} {s:ASt} {a:Act} {w:World} (hs:Sim K β s a w) {x:ResultVar} {v:AV} (h:resOne K.P s x=some v) :
  ∃ u,(resSem a.tmps x).run K.P w=.ok u w∧Rel β w v u:=by
 have hH:=hs.ok
 cases x with
 | tmp t=>simp only [resOne,Option.some.injEq] at h;subst h;exact ⟨_,rfl,hs.slot t⟩
 | cell b t =>
  simp only [resOne] at h
  split at h
  ·rename_i id es i j m hb
   split at h
   ·rename_i o ho
    obtain ⟨hc,h⟩:=bif_some h
    have hsl:=hs.slot b
    rw [hb] at hsl
    obtain ⟨bl,vals,hu,hcell,hr,_⟩:=own_cells hH hsl ho (Nat.eq_of_beq_eq_true hc)
    obtain ⟨u,hl,hur⟩:=read_ok vals hcell hr h
    grind [resSem,asAddr]
   grind
  grind
theorem resAll_ok {K:Ctx} {β:Book} {s:ASt} {a:Act} {w:World} (hs:Sim K β s a w) (xs:List ResultVar):∀ {vs:List AV},resAll K.P s xs=some vs →
  ∃ us:List Value,(xs.mapM (resSem a.tmps):Sem (List Value)).run K.P w=.ok us w∧Rels β w vs us.toArray:=by
 induction xs with
 | nil=>intro vs h;simp [resAll] at h;subst h;exact ⟨[],rfl,rfl,by simp⟩
 | cons x xs ih =>
  intro vs h
  simp only [resAll] at h
  split at h
  ·rename_i v vs' h1 h2
   cases h
   obtain ⟨u,hu,hr⟩:=resOne_ok hs h1
   obtain ⟨us,hus,hrs⟩:=ih h2
   refine ⟨u::us,?_,?_⟩
   ·simp_all
   ·refine ⟨by have:=hrs.len;grind,fun j p q hp hq=>?_⟩
    cases j with
    | zero=>grind
    | succ j=>exact hrs.rel j p q (by grind) (by grind)
  grind
theorem res_ok {K:Ctx} {β:Book} {s:ASt} {a:Act} {w:World} {fn:Func} (hs:Sim K β s a w) {v:AV} (h:resA K.P fn s=some v):∃ u,(results fn a.tmps).run K.P w=.ok u w∧Rel β w v u:=by
 unfold resA at h
 have hmap:∀ us:List Value,(fn.results.toList.mapM (resSem a.tmps):Sem (List Value)).run K.P w=.ok us w →
   (results fn a.tmps).run K.P w=.ok (if h:us.toArray.size=1 then us.toArray[0] else .tuple us.toArray) w:=by grind [results_eq,Array.mapM_eq_mapM_toList,Sem.run_bind,Sem.run_map,Result.andThen_ok,Sem.run_pure]
 split at h
 ·rename_i x hx
  cases h
  obtain ⟨us,hus,hr⟩:=resAll_ok hs _ hx
  have hl:=hr.len
  match us,hus,hr,hl with
  | [u],hus,hr,_=>exact ⟨u,by grind,hr.rel 0 _ _ rfl rfl⟩
 ·rename_i vs hx hvs
  cases h
  obtain ⟨us,hus,hr⟩:=resAll_ok hs _ hvs
  refine ⟨.tuple us.toArray,?_,.tup hr.len hr.rel⟩
  rw [hmap _ hus,dif_neg]
  intro h1
  have hl:=hr.len
  rw [h1] at hl
  match vs,hl,hx with
  | [x],_,hx=>grind
 grind
def endIds (ng:Nat) (hand:Bool) (ags:List AV) (H:Heap) (v:AV):List Nat :=
 List.range ng++(bif hand then (alive H (rch 9 H v++ags.flatMap (rch 9 H))).filter (fun id=>Nat.ble ng id&&muOf H id) else [])
def endOf (P:Program) (fn:Func) (ng:Nat) (hand:Bool) (ags:List AV) (s:ASt):Option (AV×List (Option Ob)) :=
 match resA P fn s with
 | some v=>bif nodupB (endIds ng hand ags s.H v) then
   some (mapA (posIn (endIds ng hand ags s.H v) 0) 9 (restH (endIds ng hand ags s.H v) s.H) v,(endIds ng hand ags s.H v).map fun id=>(s.H id).map (mapO (posIn (endIds ng hand ags s.H v) 0) (restH (endIds ng hand ags s.H v) s.H)))
  else none
 | none=>none
def Back (P:Program) (fn:Func) (ng:Nat) (hand:Bool) (ags:List AV) (r:AV) (obs':List (Option Ob)):AExit→ASt→Tree
 | .normal,s=>.out (endOf P fn ng hand ags s) r obs'
 | .ret,s=>.out (endOf P fn ng hand ags s) r obs'
 | .leave _,_=>.bad "leave"
def entry (args:List AV) (obs:List Ob):ASt:=⟨fun n=>args.getD n .junk,fun id=>obs[id]?,obs.length⟩
inductive NM : AV → Prop where
  | int {k : IntKind} {n : Int} : NM (.int k n)
  | bool {b : Bool} : NM (.bool b)
  | str {s : ByteArray} : NM (.str s)
  | nsl : NM .nsl
  | esl : NM .esl
  | raw {v : Value} : NM (.raw v)
  | own {id es i j m : Nat} : NM (.own id es i j m)
  | osl {id es i len : Nat} : NM (.osl id es i len)
  | oel {id es i base len k : Nat} : NM (.oel id es i base len k)
  | isl {es n : Nat} {f : Nat → Nat → AV} (h : ∀ i j, i < n → j < es → NM (f i j)) : NM (.isl es n f)
  | ipt {m : Nat} {g : Nat → AV} (h : ∀ j, j < m → NM (g j)) : NM (.ipt m g)
  | agg {cs : List AV} (h : ∀ u, u ∈ cs → NM u) : NM (.agg cs)
  | tup {cs : List AV} (h : ∀ u, u ∈ cs → NM u) : NM (.tup cs)
  | fn {f : Fn} {fs cs : List AV} (h : ∀ u, u ∈ fs → NM u) (h' : ∀ u, u ∈ cs → NM u) : NM (.fn f fs cs)
  | ifc {t : TypeId} {v : AV} (h : NM v) : NM (.ifc t v)
  | nn {v : AV} (h : NM v) : NM (.nn v)
  | junk : NM .junk
def MapsOr (w w':World) (p:Prop):Prop:=(∀ (b:Nat) (es:Array MapEntry) (z:Nat),w.heap[b]? = some (.map es z)→w'.heap[b]? = some (.map es z))∨p
theorem MapsOr.mono {w w':World} {p q:Prop} (h:MapsOr w w' p) (k:p→q):MapsOr w w' q:=h.imp (fun h=>h) k
theorem Rel.same {β:Book} {w w':World} (hc:∀ (b:Nat) (cs:Array Value) (el:TypeId) (z:Nat×Nat),w.heap[b]? = some (.cells cs el z)→w'.heap[b]? = some (.cells cs el z)) {a:AV} {v:Value} (hx:MapsOr w w' (NM a)) (h:Rel β w a v):Rel β w' a v:=by
 have cell:∀ (p:Addr) v,w.cell? p=some v→w'.cell? p=some v:=fun p v hp=>by grind [World.cell?]
 have shp:∀ b el sz,w.shape? b=some (el,sz)→w'.shape? b=some (el,sz):=fun b el sz hp=>by grind [World.shape?]
 induction h with
 | int=>exact .int
 | bool=>exact .bool
 | str=>exact .str
 | nsl=>exact .nsl
 | esl=>exact .esl
 | raw h=>exact .raw h
 | own h hi hj=>exact .own h hi hj
 | ownD h=>exact .ownD h
 | oel h hi hk hl=>exact .oel h hi hk hl
 | oelD h=>exact .oelD h
 | osl h hn hc' hs hz=>exact .osl h hn hc' (shp _ _ _ hs) hz
 | osl0 h=>exact .osl0 h
 | oslD h=>exact .oslD h
 | isl vals he hcap hb hcc ho hr hcl ih=>exact .isl vals he hcap hb (fun i j hi hj=>cell _ _ (hcc i j hi hj)) ho (fun i j hi hj=>ih i j hi hj (hx.mono fun h=>by cases h<;>grind)) hcl
 | isl0 h=>exact .isl0 h
 | ipt vals hm hb hcc ho hr hcl ih=>exact .ipt vals hm hb (fun j hj=>cell _ _ (hcc j hj)) ho (fun j hj=>ih j hj (hx.mono fun h=>by cases h<;>grind)) hcl
 | agg hl _ ih=>exact .agg hl (fun j u v hu hv=>ih j u v hu hv (hx.mono fun h=>by cases h<;>grind))
 | tup hl _ ih=>exact .tup hl (fun j u v hu hv=>ih j u v hu hv (hx.mono fun h=>by cases h<;>grind))
 | fn hl _ hl' _ ih ih'=>exact .fn hl (fun j u v hu hv=>ih j u v hu hv (hx.mono fun h=>by cases h<;>grind)) hl' (fun j u v hu hv=>ih' j u v hu hv (hx.mono fun h=>by cases h<;>grind))
 | ifc _ ih=>exact .ifc (ih (hx.mono fun h=>by cases h<;>grind))
 | nn _ ih=>exact .nn (ih (hx.mono fun h=>by cases h<;>grind))
 | mpc hb hs =>
  rcases hx with hx|hx
  ·obtain ⟨es,z,he⟩:=hs.map
   exact .mpc hb (hs.keep ((hx _ _ _ he).trans he.symm))
  ·cases hx
 | junk=>exact .junk
theorem Holds.same {β:Book} {w w':World} (hc:∀ (b:Nat) (cs:Array Value) (el:TypeId) (z:Nat×Nat),w.heap[b]? = some (.cells cs el z)→w'.heap[b]? = some (.cells cs el z)) {o:Ob} {id:Nat} (hx:MapsOr w w' (∀ i j,i<o.n→j<o.es→NM (o.f i j))) (h:Holds β w o id):Holds β w' o id:=by
 rcases h with ⟨b,h1,cs,el,h2,h3,h4⟩|h
 ·exact .inl ⟨b,h1,cs,el,hc _ _ _ _ h2,h3,fun i j hi hj=>let ⟨v,g1,g2,g3⟩:=h4 i j hi hj;⟨v,g1,g2.same hc (hx.mono fun h=>h i j hi hj),g3⟩⟩
 ·exact .inr h
def NMS (s:ASt):Prop:=(∀ n,NM (s.fr n))∧∀ id o,s.H id=some o→∀ i j,i<o.n→j<o.es→NM (o.f i j)
def NMG (gl:Globs):Prop:=∀ g m h,gl g=some (m,h)→NM (.ipt m h)
theorem GlobAt.same {β:Book} {w w':World} (hc:∀ (b:Nat) (cs:Array Value) (el:TypeId) (z:Nat×Nat),w.heap[b]? = some (.cells cs el z)→w'.heap[b]? = some (.cells cs el z)) {g m:Nat} {f:Nat→AV} (hx:MapsOr w w' (NM (.ipt m f))) (h:GlobAt β w g m f):GlobAt β w' g m f:=by
 refine ⟨h.rel.same hc hx,?_⟩
 obtain ⟨el,e⟩:=h.size
 grind [World.shape?]
theorem Sim.same {K:Ctx} {β:Book} {s:ASt} {a a':Act} {w w':World} (hs:Sim K β s a w) (hc:∀ (b:Nat) (cs:Array Value) (el:TypeId) (z:Nat×Nat),w.heap[b]? = some (.cells cs el z)→w'.heap[b]? = some (.cells cs el z)) (hsz:w.heap.size≤w'.heap.size)
  (hx:MapsOr w w' (NMS s∧NMG K.gl)) (hk:Kept K.B K.G K.w0 w') (ht:a'.tmps=a.tmps) (hd:Marks K a'.defers w'):Sim K β s a' w' :=
 ⟨fun n=>by rw [ht];exact (hs.slot n).same hc (hx.mono fun h=>h.1.1 n),by rw [ht];exact hs.size,hd,fun id o ho=>(hs.heap id o ho).same hc (hx.mono fun h=>h.1.2 id o ho),hs.inj,hs.fresh,fun id b n mu h=>⟨(hs.live id b n mu h).1,Nat.lt_of_lt_of_le (hs.live id b n mu h).2 hsz⟩,
  hs.giv,hs.bF,hs.hF,hk,Nat.le_trans hs.hB hsz,fun g m h hgl=>(hs.glob g m h hgl).same hc (hx.mono fun h'=>h'.2 g m h hgl)⟩
theorem leaves_marks {F:Fence} {n:Nat} {K:Ctx} {β:Book} {s:ASt} {fn:Func} {R:Ending→World→Prop}:∀ (Ds:List Nat) (a:Act) (w:World),Ds.Nodup→(∀ D,D∈Ds→K.B≤D∧K.w0.heap.size≤D∧w.heap[D]? = some (.deferred (some []))) →
  Sim K β s { a with defers:=[] } w→(∀ w',Sim K β s { a with defers:=[] } w'→LeavesInM F n K.P fn a.tmps R [] .returning w') →
  LeavesInM F n K.P fn a.tmps R (Ds.map fun D=>{ target:=.collected D,args := #[] }) .returning w
 | [],a,w,_,_,hs,h=>h w hs
 | D::Ds,a,w,hn,hD,hs,h=>by
  obtain ⟨h1,h2,h3⟩:=hD D (List.mem_cons_self ..)
  rw [List.nodup_cons] at hn
  refine ⟨by simp,.inl ⟨D,_,rfl,run_takeDeferred h3,leaves_marks Ds a _ hn.2 (fun D' hD'=>?_) (hs.same (fun b cs el z hb=>?_) (by simp) (.inl fun b es z hb=>(World.putObj_heap_other (fun e=>by grind)).trans hb) ?_ rfl (Marks.nil _ _)) h⟩⟩
  ·grind [List.mem_cons_of_mem,World.putObj_heap_other,trans]
  ·grind [World.putObj_heap_other,trans]
  ·refine ⟨hs.kept.os,hs.kept.tape,hs.kept.output,Nat.le_trans hs.kept.size (by simp),fun k hk hg=>?_,fun k hk=>?_,fun k o hk ho=>?_⟩
   ·exact (World.putObj_heap_other (by omega)).trans (hs.kept.block k hk hg)
   ·rw [shape_of_block (World.putObj_heap_other (by omega):(w.putObj D _).heap[k]? = w.heap[k]?)];exact hs.kept.shape k hk
   ·have:=(Array.getElem?_eq_some_iff.1 hk).1
    exact (World.putObj_heap_other (by omega)).trans (hs.kept.othr k o hk ho)
theorem gives_by {P:Program} {gl:Globs} {own:FuncId→Option (List Bool)} {hand:Bool} {f:FuncId} {fn:Func} {code:Code} {obs:List Ob} {args:List AV} {r:AV} {obs':List (Option Ob)} (hf:P.funcs[f]? = some fn) (hb:fn.body=some code) (hname:(fn.name == "runtime.NumGoroutine")=false)
  (hn:Nat.ble args.length fn.ntmps=true)
  (hrun:∀ (K:Ctx) (β:Book) (a:Act) (w:World),K.P=P→K.gl=gl→K.nt=fn.ntmps→(∀ id,obs.length≤id→K.b0 id=none)→K.qt=false→K.B=K.w0.heap.size→Sim K β (entry args obs) a w→code.wp P (Final K ⟨P,gl,fn.ntmps,own,obs.length⟩ (Back P fn obs.length hand args r obs')) a w):Gives P gl f obs args r obs':=by
 rw [Nat.ble_eq] at hn
 refine ⟨⟨fn,code,hf,hb,hname⟩,fun β w vs hF hgiv hgl hargs=>?_⟩
 refine callsIn_wide.1 (callsIn_of_wp_marks (n:=0) hf hb trivial (wpIn_wide.2 ?_) rfl)
 let K:Ctx:=⟨P,gl,w.heap.size,w,fn.ntmps,β.F,BlkOf β,β.m,false⟩
 have hl:=hargs.len
 have hs:Sim K β (entry args obs) { tmps:=vs++Array.replicate (fn.ntmps - vs.size) undef,defers:=[] } w:=by
  refine ⟨fun n=>?_,(by grind),Marks.nil _ _,fun id o ho=>hgiv.holds id o ho,hgiv.inj,fun id hid=>hgiv.none id hid,
   fun id b n mu h=>⟨.inr ⟨id,n,mu,h⟩,(hgiv.lt id b n mu h).1⟩,fun id o ho=>⟨o,ho,o.later_refl⟩,rfl,fun b hb=>⟨hF b hb,fun ⟨k,n,mu,h⟩=>(hgiv.lt k b n mu h).2 hb⟩,Kept.refl _ _ _,Nat.le_refl _,hgl⟩
  show Rel _ _ (args.getD n .junk) _
  rw [Array.getD_eq_getD_getElem?,List.getD_eq_getElem?_getD]
  by_cases hlt:n<args.length
  ·rw [Array.getElem?_append_left (by omega)]
   have h1:args[n]? = some args[n]:=by simp
   obtain ⟨x,hx,hr⟩:=hargs.at h1
   grind
  ·rw [List.getElem?_eq_none (by omega)]
   exact .junk
 refine wp_mono (hrun K β _ _ rfl rfl rfl (fun id hid=>hgiv.none id hid) rfl rfl hs) ?_
 have fin:∀ (β1:Book) (s:ASt) (a:Act) (w':World),Sim K β1 s a w'→(∃ x os,endOf P fn obs.length hand args s=some (x,os)∧Ent os x r∧ObsEnt os os obs') →
   ∃ v,(results fn a.tmps).run P w'=.ok v w'∧∃ v' β',Ending.returned v=Ending.returned v'∧Kept w.heap.size (BlkOf β) w w'∧After β β' w w' obs'∧Rel β' w' r v':=by
  rintro β1 s a w' hs' ⟨x,os,hx,hent,hobs⟩
  unfold endOf at hx
  split at hx
  rotate_left
  ·grind
  rename_i v hv
  obtain ⟨hnd,hx⟩:=bif_some hx
  simp only [Option.some.injEq,Prod.mk.injEq] at hx
  obtain ⟨hx1,hx2⟩:=hx
  generalize hids:endIds obs.length hand args s.H v=ids at hnd hx1 hx2
  obtain ⟨u,hu,hr⟩:=res_ok hs' hv
  have hpre:∀ k,k<obs.length→ids[k]? = some k:=fun k hk=>by grind [endIds,List.getElem?_append_left,List.getElem?_range]
  have hlen:obs.length≤ids.length:=by grind
  have hnd':=nodupB_spec hnd
  let bm:Nat→Option Own:=fun k=>match ids[k]? with|some id=>β1.m id|none=>none
  let β':Book:=⟨bm,β1.F⟩
  have bm_some:∀ {k o},bm k=some o→∃ id,ids[k]? = some id∧β1.m id=some o:=by grind
  have bm_at:∀ {k id},ids[k]? = some id→bm k=β1.m id:=fun {k id} h=>by grind
  have hHr:HeapOk β1 w' (restH ids s.H):=by
   intro id ob hid hne
   unfold restH at hid
   cases hmem:memN ids id with
   | true=>grind
   | false=>simp only [hmem,cond_false] at hid;exact hs'.ok id ob hid hne
  have h1:∀ id k,posIn ids 0 id=some k→β1.m id≠none→β'.m k=β1.m id:=fun id k h _=>by
   obtain ⟨_,h2⟩:=posIn_some h
   grind
  have h2:∀ b,β1.free b→β'.free b:=fun b hf=>⟨hf.1,fun k n h=>by
   obtain ⟨id,_,hm'⟩:=bm_some h
   exact hf.2 id n hm'⟩
  have h3:∀ id ob b n mu,restH ids s.H id=some ob→β1.m id=some (.lives b n mu)→β'.free b:=by
   intro id ob b n mu ho hm'
   unfold restH at ho
   cases hmem:memN ids id with
   | true=>grind
   | false =>
    refine ⟨fun hF'=>?_,fun k n' h=>?_⟩
    ·have hF2:β1.F b:=hF'
     rw [hs'.bF] at hF2
     obtain ⟨g1,g2⟩:=hs'.hF b hF2
     rcases (hs'.live id b n mu hm').1 with h|h
     ·omega
     grind
    ·obtain ⟨id',hk,hm2⟩:=bm_some h
     have:=hs'.inj id' id b n' n _ mu hm2 hm'
     grind [memN_iff,List.mem_of_getElem?]
  obtain ⟨hl1,hobs'⟩:=hobs.spec
  have hHas:Has os β':=fun k o hk=>by
   rw [← hx2,List.getElem?_map] at hk
   cases hik:ids[k]? with
   | none=>grind
   | some id =>
    simp only [hik,Option.map_some,Option.some.injEq,Option.map_eq_some_iff] at hk
    obtain ⟨o0,g3,_⟩:=hk
    show bm k≠none
    rw [bm_at hik]
    rcases hs'.heap id o0 g3 with ⟨b,g,_⟩|⟨g,_⟩<;>(grind)
  refine ⟨u,hu,u,β',rfl,hs'.kept,⟨?_,fun k ob hk=>?_,fun k hk=>?_,fun p q b n n' mu mu' e1 e2=>?_,fun k b n mu h=>?_,fun k o ho=>?_⟩,hent _ _ _ hHas ?_⟩
  ·exact hs'.bF
  ·obtain ⟨o1,g1,g2⟩:=hobs' k ob hk
   rw [← hx2,List.getElem?_map] at g1
   cases hik:ids[k]? with
   | none=>grind
   | some id =>
    simp only [hik,Option.map_some,Option.some.injEq,Option.map_eq_some_iff] at g1
    obtain ⟨o0,g3,rfl⟩:=g1
    have hh:=mapO_holds (β':=β') hHr h1 h2 h3 (bm_at hik) (hs'.heap id o0 g3)
    have e1:=g2.es;have e2:=g2.n;have e3:=g2.mu;have e4:=g2.f
    rcases hh with ⟨b,k1,cs,el,k2,k3,k4⟩|⟨k1,k2⟩
    ·refine .inl ⟨b,by grind,cs,el,k2,k3.ent g2,fun i j hi hj=>?_⟩
     rw [← e2] at hi
     rw [← e1] at hj ⊢
     obtain ⟨vv,j1,j2,j3⟩:=k4 i j hi hj
     exact ⟨vv,j1,e4 i j hi hj _ _ _ hHas j2,j3⟩
    ·exact .inr ⟨k1,by omega⟩
  ·grind
  ·obtain ⟨x1,g1,g2⟩:=bm_some e1
   obtain ⟨y1,g3,g4⟩:=bm_some e2
   have:=hs'.inj x1 y1 b n n' mu mu' g2 g4
   grind
  ·obtain ⟨id,g1,g2⟩:=bm_some h
   have:=hs'.live id b n mu g2
   grind
  ·have hk:k<obs.length:=Nat.lt_of_not_le fun h=>by rw [hgiv.none k h] at ho;grind
   obtain ⟨o',g1,g2⟩:=hs'.giv k o ho
   grind
  grind [mapA_rel]
 have out:∀ (β1:Book) (s:ASt) (a:Act) (w':World),Sim K β1 s a w'→(∃ x os,endOf P fn obs.length hand args s=some (x,os)∧Ent os x r∧ObsEnt os os obs') →
   LeavesInM Fence.wide 0 P fn a.tmps (fun e w'=>∃ v β',e=.returned v∧Kept w.heap.size (BlkOf β) w w'∧After β β' w w' obs'∧Rel β' w' r v) a.defers .returning w':=by
  intro β1 s a w' hs' hk
  obtain ⟨Ds,h1,h2,_,h3⟩:=hs'.defers
  rw [h1]
  refine leaves_marks (K:=K) (β:=β1) (s:=s) Ds a w' h2 h3 (hs'.same (fun _ _ _ _ h=>h) (Nat.le_refl _) (.inl fun _ _ _ h=>h) hs'.kept rfl (Marks.nil _ _)) (fun w2 hs2=>?_)
  obtain ⟨v,hv,h⟩:=fin β1 s _ w2 hs2 hk
  exact ⟨v,hv,h⟩
 rintro e a w' ⟨β1,s,ae,he,hs',hk⟩
 cases e<;>simp only [exitOf,reduceCtorEq,Option.some.injEq] at he
 ·subst he;exact out β1 s a w' hs' hk
 ·subst he;exact hk.elim
 ·subst he;exact out β1 s a w' hs' hk
theorem gives_of {P:Program} {gl:Globs} {own:FuncId→Option (List Bool)} {hand:Bool} {f:FuncId} {fn:Func} {code:Code} {obs:List Ob} {args:List AV} {r:AV} {obs':List (Option Ob)} (hf:P.funcs[f]? = some fn) (hb:fn.body=some code) (hname:(fn.name == "runtime.NumGoroutine")=false)
  (hm:P.follows .mixedOrders=true) (hn:Nat.ble args.length fn.ntmps=true) (hwp:(run ⟨P,gl,fn.ntmps,own,obs.length⟩ code (Back P fn obs.length hand args r obs') (entry args obs)).wp P gl (Le obs.length)):Gives P gl f obs args r obs' :=
 gives_by (own:=own) hf hb hname hn fun _ _ _ _ hP hgl hnt hng hqt _ hs=>hP▸run_sound (C:=⟨P,gl,fn.ntmps,own,obs.length⟩) hP.symm hgl.symm hnt.symm hng hqt (hP.symm▸hm) code _ _ _ _ _ hwp hs
end Go.Am

namespace Go.Am
open Go.IntKind (wrap)
open Int (toNat)
section
variable {x y : Bool} {p q : Prop}
theorem cnd_id_t:x=true→x=true:=id
theorem cnd_id_f:x=false→x=false:=id
theorem cnd_and_t (f:x=true→p) (g:y=true→q) (h:(x&&y)=true):p∧q:=by grind
theorem cnd_and_f (f:x=false→p) (g:y=false→q) (h:(x&&y)=false):p∨q:=by grind
theorem cnd_or_t (f:x=true→p) (g:y=true→q) (h:(x||y)=true):p∨q:=by grind
theorem cnd_or_f (f:x=false→p) (g:y=false→q) (h:(x||y)=false):p∧q:=by grind
theorem cnd_not_t (f:x=false→p) (h:(!x)=true):p:=by grind
theorem cnd_not_f (f:x=true→p) (h:(!x)=false):p:=by grind
theorem cnd_eqt_t (f:x=true→p) (h:(x==true)=true):p:=by grind
theorem cnd_eqt_f (f:x=false→p) (h:(x==true)=false):p:=by grind
theorem cnd_eqf_t (f:x=false→p) (h:(x==false)=true):p:=by grind
theorem cnd_eqf_f (f:x=true→p) (h:(x==false)=false):p:=by grind
theorem cnd_dec_t {i:Decidable p} (h:@decide p i=true):p:=of_decide_eq_true h
theorem cnd_dec_f {i:Decidable p} (h:@decide p i=false):¬p:=of_decide_eq_false h
theorem cnd_beq_t {a b:Int} (h:(a==b)=true):a=b:=by grind
theorem cnd_beq_f {a b:Int} (h:(a==b)=false):¬a=b:=by grind
theorem cnd_bne_t {a b:Int} (h:(a != b)=true):¬a=b:=by grind
theorem cnd_bne_f {a b:Int} (h:(a != b)=false):a=b:=by grind
theorem cnd_nbeq_t {a b:Nat} (h:Nat.beq a b=true):a=b:=Nat.eq_of_beq_eq_true h
theorem cnd_nbeq_f {a b:Nat} (h:Nat.beq a b=false):¬a=b:=Nat.ne_of_beq_eq_false h
theorem cnd_nblt_t {a b:Nat} (h:Nat.blt a b=true):a<b:=by simp_all
theorem cnd_nblt_f {a b:Nat} (h:Nat.blt a b=false):¬a<b:=fun k=>by grind [Nat.blt_eq]
theorem cnd_nble_t {a b:Nat} (h:Nat.ble a b=true):a≤b:=by simp_all
theorem cnd_nble_f {a b:Nat} (h:Nat.ble a b=false):¬a≤b:=fun k=>by grind [Nat.ble_eq]
end
def EntL (os:List (Option Ob)):List AV→List AV→Prop
 | [],[]=>True
 | a::l,b::l'=>Ent os a b∧EntL os l l'
 | _,_=>False
theorem EntL.spec {os:List (Option Ob)}:∀ {l l':List AV},EntL os l l'→l.length=l'.length∧∀ (k:Nat) a b,l[k]? = some a→l'[k]? = some b→Ent os a b
 | [],[],_=>⟨rfl,fun k a b h=>by simp⟩
 | x::l,y::l',h=>by
  obtain ⟨h1,h2⟩:=EntL.spec h.2
  refine ⟨by simp [h1],fun k a b ha hb=>?_⟩
  cases k with
  | zero=>simp at ha hb;subst ha;subst hb;exact h.1
  | succ k=>simp at ha hb;exact h2 k a b ha hb
 | [],_::_,h=>h.elim
 | _::_,[],h=>h.elim
def lookZ:List Nat→List AV→Nat→AV
 | n::ns,v::vs,k=>bif Nat.beq n k then v else lookZ ns vs k
 | _,_,_=>.junk
def mkSt (ns:List Nat) (vs:List AV) (obs:List (Option Ob)):ASt:=⟨lookZ ns vs,fun id=>obs.getD id none,obs.length⟩
def valsOf (s:ASt) (ns π:List Nat):List AV:=ns.map fun n=>mapA (posIn π 0) 9 (restH π s.H) (s.fr n)
def osOf (s:ASt) (π:List Nat):List (Option Ob):=π.map fun id=>match s.H id with
 | some o=>some (mapO (posIn π 0) (restH π s.H) o)
 | none=>bif Nat.ble s.c id && !Nat.blt (id - s.c) 256 then some ⟨(id - s.c) / 256,0,true,.ty noTy (.lst [])⟩ else none
def descOk (ng c:Nat) (π:List Nat):Bool:=nodupB π&&(List.range ng).all fun k=>match π[k]? with|some id=>Nat.beq id k||(Nat.ble c id&&Nat.blt (id - c) 256)|none=>false
structure Desc (ng : Nat) (s : ASt) (ns π : List Nat) (vals : List AV) (os : List (Option Ob)) : Prop where
  ok : descOk ng s.c π = true
  vals : valsOf s ns π = vals
  os : osOf s π = os
theorem lookZ_cases (β:Book) (w:World) (s:ASt) (g:AV→AV) (val:Nat→Value) (os:List (Option Ob)) (hh:Has os β):∀ (ns:List Nat) (vs:List AV),(∀ (k n:Nat) v,ns[k]? = some n→vs[k]? = some v→Ent os (g (s.fr n)) v)→(∀ n,Rel β w (g (s.fr n)) (val n))→∀ n,Rel β w (lookZ ns vs n) (val n)
 | [],_,_,_,_=>.junk
 | _::_,[],_,_,_=>.junk
 | m::ns,v::vs,h,hr,n=>by
  simp only [lookZ]
  cases hb:Nat.beq m n with
  | true =>
   have:=Nat.eq_of_beq_eq_true hb
   subst this
   exact h 0 m v rfl rfl _ _ _ hh (hr m)
  | false=>exact lookZ_cases β w s g val os hh ns vs (fun k n v hn hv=>h (k+1) n v (by grind) (by grind)) hr n
theorem Desc.le0 {ng:Nat} {s:ASt} {ns π:List Nat} {vals vs:List AV} {os obs:List (Option Ob)} (h:Desc ng s ns π vals os) (hv:EntL os vals vs) (ho:ObsEnt os os obs):Le ng s (mkSt ns vs obs):=by
 intro K β a w hng hs
 obtain ⟨hok,hvals,hos⟩:=h
 unfold descOk at hok
 rw [Bool.and_eq_true] at hok
 obtain ⟨hnd,hpre⟩:=hok
 have hnd':=nodupB_spec hnd
 have hpre':∀ k,k<ng→π[k]? = some k∨∃ id,π[k]? = some id∧(Nat.ble s.c id&&Nat.blt (id - s.c) 256)=true:=fun k hk=>by
  have:=List.all_eq_true.1 hpre k (List.mem_range.2 hk)
  cases hp:π[k]? with
  | none=>grind
  | some id =>
   simp only [hp] at this
   rw [Bool.or_eq_true] at this
   rcases this with h|h
   ·grind [Nat.eq_of_beq_eq_true]
   grind
 obtain ⟨hl1,hv'⟩:=hv.spec
 obtain ⟨hl2,ho'⟩:=ho.spec
 have hlo:os.length=π.length:=by grind [osOf]
 let bm:Nat→Option Own:=fun k=>match π[k]? with|some id=>bif Nat.ble s.c id then (bif Nat.blt (id - s.c) 256 then some .dead else some .empty) else β.m id|none=>none
 let β':Book:=⟨bm,β.F⟩
 have bm_lives:∀ {k b n mu},bm k=some (.lives b n mu)→∃ id,π[k]? = some id∧β.m id=some (.lives b n mu):=by grind
 have old:∀ {id},β.m id≠none→Nat.ble s.c id=false:=fun {id} hn=>by
  cases hc:Nat.ble s.c id with
  | false=>rfl
  | true=>rw [Nat.ble_eq] at hc;exact absurd (hs.fresh id hc) hn
 have bm_at:∀ {k id},π[k]? = some id→β.m id≠none→bm k=β.m id:=fun {k id} h hn=>by grind
 have hHr:HeapOk β w (restH π s.H):=by
  intro id ob hid hne
  unfold restH at hid
  cases hmem:memN π id with
  | true=>grind
  | false=>simp only [hmem,cond_false] at hid;exact hs.ok id ob hid hne
 have h1:∀ id k,posIn π 0 id=some k→β.m id≠none→β'.m k=β.m id:=fun id k h hn=>by
  obtain ⟨_,h2⟩:=posIn_some h
  grind
 have h2:∀ b,β.free b→β'.free b:=fun b hf=>⟨hf.1,fun k n h=>by
  obtain ⟨id,_,hm'⟩:=bm_lives h
  exact hf.2 id n hm'⟩
 have h3:∀ id ob b n mu,restH π s.H id=some ob→β.m id=some (.lives b n mu)→β'.free b:=by
  intro id ob b n mu ho hm'
  unfold restH at ho
  cases hmem:memN π id with
  | true=>grind
  | false =>
   refine ⟨fun hF'=>?_,fun k n' h=>?_⟩
   ·have hF2:β.F b:=hF'
    rw [hs.bF] at hF2
    obtain ⟨g1,g2⟩:=hs.hF b hF2
    rcases (hs.live id b n mu hm').1 with h|h
    ·omega
    grind
   ·obtain ⟨id',hk,hm2⟩:=bm_lives h
    have:=hs.inj id' id b n' n _ mu hm2 hm'
    grind [memN_iff,List.mem_of_getElem?]
 have hHld:∀ (k:Nat) o,os[k]? = some (some o)→Holds β' w o k:=fun k o hk=>by
  rw [← hos,osOf,List.getElem?_map] at hk
  cases hik:π[k]? with
  | none=>grind
  | some id =>
   simp only [hik,Option.map_some,Option.some.injEq] at hk
   cases hH:s.H id with
   | some o0 =>
    simp only [hH,Option.some.injEq] at hk
    subst hk
    have hne:β.m id≠none:=by rcases hs.heap id o0 hH with ⟨b,g,_⟩|⟨g,_⟩<;>(grind)
    exact mapO_holds (β':=β') hHr h1 h2 h3 (bm_at hik hne) (hs.heap id o0 hH)
   | none =>
    simp only [hH] at hk
    cases hc:Nat.ble s.c id with
    | false=>grind
    | true =>
     cases hg:Nat.blt (id - s.c) 256 with
     | true=>grind
     | false =>
      simp only [hc,hg,Bool.not_false,Bool.and_self,cond_true,Option.some.injEq] at hk
      subst hk
      exact .inr ⟨by grind,rfl⟩
 have hHas:Has os β':=fun k o hk=>by
  rcases hHld k o hk with ⟨b,g,_⟩|⟨g,_⟩<;>(grind)
 refine ⟨β',fun n=>?_,hs.size,hs.defers,fun id o hid=>?_,fun p q b n n' mu mu' e1 e2=>?_,fun id hid=>?_,fun id b n mu h=>?_,fun id o hid=>?_,hs.bF,hs.hF,hs.kept,hs.hB,fun g m h hgl=>(hs.glob g m h hgl).rebook h2 (by
  obtain ⟨_,_,_,_,_,_,_,_,hcl,_⟩:=rel_ipt_inv (hs.glob g m h hgl).rel
  exact .ipt hcl)⟩
 ·refine lookZ_cases β' w s (mapA (posIn π 0) 9 (restH π s.H)) (fun n=>a.tmps.getD n undef) os hHas ns vs (fun k m v hm hv1=>?_) (fun m=>mapA_rel hHr h1 h2 h3 9 _ _ (hs.slot m)) n
  grind [vals,mapA,posIn,restH,valsOf]
 ·have hid':obs[id]? = some (some o):=by
   have:obs.getD id none=some o:=hid
   grind
  obtain ⟨o1,g1,g2⟩:=ho' id o hid'
  have e1:=g2.es;have e2:=g2.n;have e3:=g2.mu;have e4:=g2.f
  rcases hHld id o1 g1 with ⟨b,k1,cs,el,k2,k3,k4⟩|⟨k1,k2⟩
  ·refine .inl ⟨b,by grind,cs,el,k2,k3.ent g2,fun i j hi hj=>?_⟩
   rw [← e2] at hi
   rw [← e1] at hj ⊢
   obtain ⟨vv,j1,j2,j3⟩:=k4 i j hi hj
   exact ⟨vv,j1,e4 i j hi hj _ _ _ hHas j2,j3⟩
  ·exact .inr ⟨k1,by omega⟩
 ·obtain ⟨x1,g1,g2⟩:=bm_lives e1
  obtain ⟨y1,g3,g4⟩:=bm_lives e2
  have:=hs.inj x1 y1 b n n' mu mu' g2 g4
  grind
 ·have hlen:obs.length≤id:=hid
  grind
 ·obtain ⟨id1,g1,g2⟩:=bm_lives h
  exact hs.live id1 b n mu g2
 ·have hk:id<ng:=Nat.lt_of_not_le fun h=>by grind
  obtain ⟨o',g1,g2⟩:=hs.giv id o hid
  rcases hpre' id hk with hp|⟨id',hp,hg⟩
  ·grind
  ·rw [Bool.and_eq_true] at hg
   exact ⟨.dead,by grind,by cases o<;>trivial⟩
def ObsLow (os:List (Option Ob)):List (Option Ob)→List (Option Ob)→Prop
 | [],[]=>True
 | _::l,none::l'=>ObsLow os l l'
 | some ⟨es,n,mu,f⟩::l,some o'::l'=>ObEnt os ⟨es,n,mu&&o'.mu,f⟩ o'∧ObsLow os l l'
 | _,_=>False
theorem ObsLow.spec {os:List (Option Ob)}:∀ {l l':List (Option Ob)},ObsLow os l l'→∃ l1,ObsEnt os l l1∧l1.length=l'.length ∧
  ∀ id o',l'.getD id none=some o'→∃ o1,l1.getD id none=some o1∧o1.es=o'.es∧o1.n=o'.n∧o1.f=o'.f∧(o'.mu=true→o1.mu=true)
 | [],[],_=>⟨[],trivial,rfl,fun id o' h=>by grind⟩
 | x::l,none::l',h=>by
  obtain ⟨l1,h1,h2,h3⟩:=ObsLow.spec (l:=l) (l':=l') (by cases x<;>exact h)
  refine ⟨none::l1,by cases x<;>exact h1,by simp [h2],fun id o' hk=>?_⟩
  cases id with
  | zero=>simp at hk
  | succ k=>simpa using h3 k o' (by simpa using hk)
 | some ⟨es,n,mu,f⟩::l,some o'::l',h=>by
  obtain ⟨l1,h1,h2,h3⟩:=ObsLow.spec h.2
  refine ⟨some ⟨o'.es,o'.n,mu,o'.f⟩::l1,⟨⟨h.1.es0,h.1.n,rfl,h.1.f⟩,h1⟩,by grind,fun id o2 hk=>?_⟩
  cases id with
  | zero =>
   simp at hk
   subst hk
   refine ⟨_,rfl,rfl,rfl,rfl,fun hm=>?_⟩
   have:=h.1.mu
   grind
  | succ k=>simp_all
 | [],some o::l',h=>h.elim
 | [],none::l',h=>h.elim
 | none::l,some o::l',h=>h.elim
 | some o::l,[],h=>h.elim
 | none::l,[],h=>h.elim
theorem Sim.lower {K:Ctx} {β:Book} {a:Act} {w:World} {ns:List Nat} {vs:List AV} {obs1 obs:List (Option Ob)} (hl:obs1.length=obs.length)
  (h:∀ id o,obs.getD id none=some o→∃ o1,obs1.getD id none=some o1∧o1.es=o.es∧o1.n=o.n∧o1.f=o.f∧(o.mu=true→o1.mu=true)) (hs:Sim K β (mkSt ns vs obs1) a w):∃ β',Sim K β' (mkSt ns vs obs) a w:=by
 let ids:=(List.range obs.length).filter fun k=>match obs.getD k none with|some o => !o.mu|none=>false
 have hk:Keeps β w (frzB ids β) w:=frzB_keeps ids
 refine ⟨frzB ids β,fun n=>(hs.slot n).keep hk,hs.size,hs.defers,fun id o ho=>?_,frzB_inj hs.inj,fun id hid=>frzB_none (hs.fresh id (by have hid:obs.length≤id:=hid;show obs1.length≤id;omega)),fun id b n mu hb=>?_,fun id o hid=>?_,hs.bF,hs.hF,hs.kept,hs.hB,fun g m f hgl=>(hs.glob g m f hgl).keep hk⟩
 ·have ho':obs.getD id none=some o:=ho
  obtain ⟨o1,h1,e1,e2,e3,e4⟩:=h id o ho'
  have hmem:memN ids id = !o.mu:=by
   have hlt:id<obs.length:=by grind
   rw [Bool.eq_iff_iff,memN_iff]
   grind
  rcases hs.heap id o1 h1 with ⟨b,g1,cs,el,k2,k3,k4⟩|⟨g1,g2⟩
  ·refine .inl ⟨b,?_,cs,el,k2,by grind,fun i j hi hj=>?_⟩
   ·rw [frzB_lives g1,hmem,← e2]
    grind
   ·rw [← e2] at hi
    rw [← e1] at hj ⊢
    obtain ⟨vv,j1,j2,j3⟩:=k4 i j hi hj
    exact ⟨vv,j1,by rw [← e3];exact j2.keep hk,j3⟩
  ·exact .inr ⟨by grind [frzB],by omega⟩
 ·obtain ⟨mu',g1,_⟩:=frzB_inv hb
  exact hs.live id b n mu' g1
 ·obtain ⟨o',g1,g2⟩:=hs.giv id o hid
  obtain ⟨o2,g3,g4⟩:=hk.ids id o' g1
  grind [Own.later_trans]
theorem Desc.le {ng:Nat} {s:ASt} {ns π:List Nat} {vals vs:List AV} {os obs:List (Option Ob)} (h:Desc ng s ns π vals os) (hv:EntL os vals vs) (ho:ObsLow os os obs):Le ng s (mkSt ns vs obs):=by
 obtain ⟨obs1,h1,h2,h3⟩:=ho.spec
 intro K β a w hng hs
 obtain ⟨β1,hs1⟩:=h.le0 hv h1 K β a w hng hs
 exact hs1.lower h2 h3
inductive Sk : Type 1 where
  | no
  | tt (t : Sk)
  | ff (t : Sk)
  | br (b : Bool) (t e : Sk)
  | req (p : Prop) (t : Sk)
  | sc (g : Bool) (f : FuncId) (args : List AV) (r : AV) (t : Sk)
  | dc (g : Bool) (f : FuncId) (args : List AV) (r : AV) (t : Sk)
  | gc (f : FuncId) (obs : List Ob) (args : List AV) (r : AV) (obs' : List (Option Ob)) (t : Sk)
  | loop (ι : Type) (S : ι → ASt) (m : ι → Nat) (i0 : ι) (ns π : List Nat) (vals : List AV) (os : List (Option Ob)) (t : ι → Sk)
  | again (p : ASt → Prop) (ns π : List Nat) (vals : List AV) (os : List (Option Ob))
  | out (x : AV) (os : List (Option Ob)) (r : AV) (obs : List (Option Ob))
  | opq (nt : Nat) (c : Code) (ns π : List Nat) (vals : List AV) (os : List (Option Ob)) (s' : ASt) (t : Sk)
structure LoopD : Type 1 where
  ι : Type
  ns : List Nat
  vs : ι → List AV
  obs : ι → List (Option Ob)
  m : ι → Nat
  i0 : ι
def Again (ng:Nat) {ι:Type} (S:ι→ASt) (m:ι→Nat) (i:ι):ASt→Prop:=fun s'=>∃ i',Le ng s' (S i')∧m i'<m i
def unroll (ng:Nat):Tree→Sk→Sk
 | _,.no=>.no
 | .br b t _,.tt k=>match b with|true=>.tt (unroll ng t k)|false=>.no
 | .br b _ e,.ff k=>match b with|true=>.no|false=>.ff (unroll ng e k)
 | .br b t e,.br _ k k'=>.br b (unroll ng t k) (unroll ng e k')
 | .req p t,.req _ k=>.req p (unroll ng t k)
 | .scall g f args kk,.sc _ _ _ r k=>bif sc 9 r then .sc g f args r (unroll ng (kk r) k) else .no
 | .dcall g f args kk,.dc _ _ _ r k=>.dc g f args r (unroll ng (kk r) k)
 | .gcall f n obs args kk,.gc _ _ _ r obs' k=>bif Nat.ble n obs'.length&&Nat.ble obs'.length (n+8) then .gc f obs args r obs' (unroll ng (kk r obs') k) else .no
 | .loop _ s kk,.loop ι S m i0 ns π _ _ t=>bif descOk ng s.c π then .loop ι S m i0 ns π (valsOf s ns π) (osOf s π) (fun i=>unroll ng (kk (S i) (Again ng S m i)) (t i)) else .no
 | .again s p,.again _ ns π _ _=>bif descOk ng s.c π then .again p ns π (valsOf s ns π) (osOf s π) else .no
 | .opq n nt c s kk,.opq _ _ ns π _ _ s' t=>bif Nat.beq n ng&&descOk ng s.c π then .opq nt c ns π (valsOf s ns π) (osOf s π) s' (unroll ng (kk s') t) else .no
 | .out v r obs,.out .. => match v with|some (x,os)=>.out x os r obs|none=>.no
 | _,_=>.no
def Sk.ok (P:Program) (gl:Globs) (ng:Nat):Sk→Prop
 | .no=>False
 | .tt t=>t.ok P gl ng
 | .ff t=>t.ok P gl ng
 | .br b t e=>(b=true→t.ok P gl ng)∧(b=false→e.ok P gl ng)
 | .req p t=>p∧t.ok P gl ng
 | .sc g f args r t=>(g=true→Pure P gl f args r)∧t.ok P gl ng
 | .dc g f args r t=>(g=true→Pure P gl f args r)∧t.ok P gl ng
 | .gc f obs args r obs' t=>Gives P gl f obs args r obs'∧t.ok P gl ng
 | .loop ι S _ i0 ns π vals os t=>(∀ s,Desc ng s ns π vals os→Le ng s (S i0))∧∀ i:ι,(t i).ok P gl ng
 | .again p ns π vals os=>∀ s,Desc ng s ns π vals os→p s
 | .out x os r obs=>Ent os x r∧ObsEnt os os obs
 | .opq nt c ns π vals os s' t=>(∀ s,Desc ng s ns π vals os→Opq P gl ng nt c s s')∧t.ok P gl ng
theorem bif_no {c:Bool} {x y:Sk} (h:(bif c then x else .no)=y) (hy:y≠.no):c=true∧x=y:=by grind
theorem unroll_ok {P:Program} {gl:Globs} {ng:Nat} (k:Sk):∀ T,unroll ng T k=k→k.ok P gl ng→T.wp P gl (Le ng):=by
 induction k with
 | no=>intro T _ h;exact h.elim
 | tt t ih =>
  intro T hu h
  cases T<;>simp only [unroll,reduceCtorEq] at hu
  rename_i b t1 e1
  cases b<;>simp only [reduceCtorEq,Sk.tt.injEq] at hu
  exact ⟨fun _=>ih _ hu h,fun h=>by cases h⟩
 | ff t ih =>
  intro T hu h
  cases T<;>simp only [unroll,reduceCtorEq] at hu
  rename_i b t1 e1
  cases b<;>simp only [reduceCtorEq,Sk.ff.injEq] at hu
  exact ⟨fun h=>(by cases h),fun _=>ih _ hu h⟩
 | br b t e iht ihe =>
  intro T hu h
  cases T<;>simp only [unroll,reduceCtorEq,Sk.br.injEq] at hu
  obtain ⟨rfl,h1,h2⟩:=hu
  exact ⟨fun hb=>iht _ h1 (h.1 hb),fun hb=>ihe _ h2 (h.2 hb)⟩
 | req p t ih =>
  intro T hu h
  cases T<;>simp only [unroll,reduceCtorEq,Sk.req.injEq] at hu
  obtain ⟨rfl,h1⟩:=hu
  exact ⟨h.1,ih _ h1 h.2⟩
 | sc g f args r t ih =>
  intro T hu h
  cases T<;>simp only [unroll,reduceCtorEq] at hu
  obtain ⟨hs,hu⟩:=bif_no hu (by simp)
  simp only [Sk.sc.injEq,true_and] at hu
  obtain ⟨rfl,rfl,rfl,h1⟩:=hu
  exact ⟨r,h.1,hs,ih _ h1 h.2⟩
 | dc g f args r t ih =>
  intro T hu h
  cases T<;>simp only [unroll,reduceCtorEq,Sk.dc.injEq,true_and] at hu
  obtain ⟨rfl,rfl,rfl,h1⟩:=hu
  exact ⟨r,h.1,ih _ h1 h.2⟩
 | gc f obs args r obs' t ih =>
  intro T hu h
  cases T<;>simp only [unroll,reduceCtorEq] at hu
  obtain ⟨hs,hu⟩:=bif_no hu (by simp)
  simp only [Sk.gc.injEq,true_and] at hu
  obtain ⟨rfl,rfl,rfl,h1⟩:=hu
  exact ⟨r,obs',h.1,hs,ih _ h1 h.2⟩
 | loop ι S m i0 ns π vals os t ih =>
  intro T hu h
  cases T<;>simp only [unroll,reduceCtorEq] at hu
  obtain ⟨hs,hu⟩:=bif_no hu (by simp)
  simp only [Sk.loop.injEq,true_and,heq_eq_eq] at hu
  obtain ⟨rfl,rfl,h1⟩:=hu
  exact ⟨ι,S,m,i0,h.1 _ ⟨hs,rfl,rfl⟩,fun i=>ih i _ (congrFun h1 i) (h.2 i)⟩
 | again p ns π vals os =>
  intro T hu h
  cases T<;>simp only [unroll,reduceCtorEq] at hu
  obtain ⟨hs,hu⟩:=bif_no hu (by simp)
  simp only [Sk.again.injEq,true_and] at hu
  obtain ⟨rfl,rfl,rfl⟩:=hu
  exact h _ ⟨hs,rfl,rfl⟩
 | opq nt c ns π vals os s' t ih =>
  intro T hu h
  cases T<;>simp only [unroll,reduceCtorEq] at hu
  obtain ⟨hs,hu⟩:=bif_no hu (by simp)
  rw [Bool.and_eq_true] at hs
  have hn:=Nat.eq_of_beq_eq_true hs.1
  simp only [Sk.opq.injEq,true_and] at hu
  obtain ⟨rfl,rfl,rfl,rfl,h1⟩:=hu
  subst hn
  exact ⟨s',h.1 _ ⟨hs.2,rfl,rfl⟩,ih _ h1 h.2⟩
 | out x os r obs =>
  intro T hu h
  cases T<;>simp only [unroll,reduceCtorEq] at hu
  rename_i v r1 obs1
  cases v with
  | none=>grind
  | some xo =>
   obtain ⟨x1,os1⟩:=xo
   simp only [Sk.out.injEq] at hu
   obtain ⟨rfl,rfl,rfl,rfl⟩:=hu
   exact ⟨x1,os1,rfl,h.1,h.2⟩
def walk (P:Program) (gl:Globs) (own:FuncId→Option (List Bool)) (hand:Bool) (fn:Func) (obs:List Ob) (args:List AV) (r:AV) (obs':List (Option Ob)):Tree:=match fn.body with
 | some code=>run ⟨P,gl,fn.ntmps,own,obs.length⟩ code (Back P fn obs.length hand args r obs') (entry args obs)
 | none=>.bad "no body"
section
variable {P : Program} {gl : Globs} {own : FuncId → Option (List Bool)}
theorem gives_sk {hand:Bool} {f:FuncId} {fn:Func} {obs:List Ob} {args:List AV} {r:AV} {obs':List (Option Ob)} (hf:P.funcs[f]? = some fn) (hname:(fn.name == "runtime.NumGoroutine")=false) (hm:P.follows .mixedOrders=true)
  (hn:Nat.ble args.length fn.ntmps=true) (sk:Sk) (hu:unroll obs.length (walk P gl own hand fn obs args r obs') sk=sk) (h:sk.ok P gl obs.length):Gives P gl f obs args r obs':=by
 have hwp:=unroll_ok sk _ hu h
 unfold walk at hwp
 cases hb:fn.body with
 | none=>rw [hb] at hwp;exact hwp.elim
 | some code=>grind [gives_of]
theorem pure_sk {f:FuncId} {fn:Func} {args:List AV} {r:AV} (hf:P.funcs[f]? = some fn) (hname:(fn.name == "runtime.NumGoroutine")=false) (hm:P.follows .mixedOrders=true)
  (hn:Nat.ble args.length fn.ntmps=true) (sk:Sk) (hu:unroll 0 (walk P gl own false fn [] args r []) sk=sk) (h:sk.ok P gl 0):Pure P gl f args r :=
 gives_sk hf hname hm hn sk hu h
variable {ng : Nat}
theorem k_tt {t:Sk} (h:t.ok P gl ng):(Sk.tt t).ok P gl ng:=h
theorem k_ff {t:Sk} (h:t.ok P gl ng):(Sk.ff t).ok P gl ng:=h
theorem k_br {b:Bool} {t e:Sk} (h1:b=true→t.ok P gl ng) (h2:b=false→e.ok P gl ng):(Sk.br b t e).ok P gl ng:=⟨h1,h2⟩
theorem k_req {p:Prop} {t:Sk} (h1:p) (h2:t.ok P gl ng):(Sk.req p t).ok P gl ng:=⟨h1,h2⟩
theorem k_sc {f:FuncId} {args:List AV} {r:AV} {t:Sk} (h1:Pure P gl f args r) (h2:t.ok P gl ng):(Sk.sc true f args r t).ok P gl ng:=⟨fun _=>h1,h2⟩
theorem k_scg {g:Bool} {f:FuncId} {args:List AV} {r:AV} {t:Sk} (h1:g=true→Pure P gl f args r) (h2:t.ok P gl ng):(Sk.sc g f args r t).ok P gl ng:=⟨h1,h2⟩
theorem k_dc {f:FuncId} {args:List AV} {r:AV} {t:Sk} (h1:Pure P gl f args r) (h2:t.ok P gl ng):(Sk.dc true f args r t).ok P gl ng:=⟨fun _=>h1,h2⟩
theorem k_gc {f:FuncId} {obs:List Ob} {args:List AV} {r:AV} {obs':List (Option Ob)} {t:Sk} (h1:Gives P gl f obs args r obs') (h2:t.ok P gl ng):(Sk.gc f obs args r obs' t).ok P gl ng:=⟨h1,h2⟩
theorem k_loop {ι:Type} {S:ι→ASt} {m:ι→Nat} {i0:ι} {ns π:List Nat} {vals:List AV} {os:List (Option Ob)} {t:ι→Sk} (h1:∀ s,Desc ng s ns π vals os→Le ng s (S i0)) (h2:∀ i,(t i).ok P gl ng) :
  (Sk.loop ι S m i0 ns π vals os t).ok P gl ng:=⟨h1,h2⟩
theorem k_again {ι:Type} {S:ι→ASt} {m:ι→Nat} {i:ι} {ns π:List Nat} {vals:List AV} {os:List (Option Ob)} (i':ι) (h1:∀ s,Desc ng s ns π vals os→Le ng s (S i')) (h2:m i'<m i) :
  (Sk.again (Again ng S m i) ns π vals os).ok P gl ng:=fun s hs=>⟨i',h1 s hs,h2⟩
theorem k_opq {nt:Nat} {c:Code} {ns π:List Nat} {vals:List AV} {os:List (Option Ob)} {s1 s':ASt} {t:Sk} (h0:∀ s,Desc ng s ns π vals os→Le ng s s1) (h1:Opq P gl ng nt c s1 s') (h2:t.ok P gl ng) :
  (Sk.opq nt c ns π vals os s' t).ok P gl ng:=⟨fun s hs K β a w hP hgl hnt hng hq hm h=>let ⟨_,h'⟩:=h0 s hs K β a w hng h;h1 K _ a w hP hgl hnt hng hq hm h',h2⟩
theorem k_out {x r:AV} (h:Ent [] x r):(Sk.out x [] r []).ok P gl ng:=⟨h,trivial⟩
theorem k_outg {x r:AV} {os obs:List (Option Ob)} (h:Ent os x r) (h2:ObsEnt os os obs):(Sk.out x os r obs).ok P gl ng:=⟨h,h2⟩
end
end Go.Am

namespace Go.Am
open Go.IntKind (wrap)
open Int (toNat)
open Go.RowKit
theorem Ent.junk {os:List (Option Ob)} (a:AV):Ent os a .junk:=fun _ _ _ _ _=>.junk
theorem Ent.nn {os:List (Option Ob)} {a b:AV} (h:Ent os a b):Ent os (.nn a) b:=fun _ _ _ hh hr=>by
 cases hr with|nn h'=>exact h _ _ _ hh h'
theorem Ent.isl {os:List (Option Ob)} {es n:Nat} {f g:Nat→Nat→AV} (h:∀ i j,i<n→j<es→f i j=g i j):Ent os (.isl es n f) (.isl es n g):=fun _ _ _ _ hr=>by
 cases hr with
 | isl vals he hcap hb hc ho hr hcl=>exact .isl vals he hcap hb hc ho (fun i j hi hj=>by grind) (fun i j hi hj=>by grind)
 | isl0 h'=>exact .isl0 h'
theorem Ent.islN {os:List (Option Ob)} {es n n':Nat} {f g:Nat→Nat→AV} (hn:n=n') (h:∀ i j,i<n→j<es→f i j=g i j):Ent os (.isl es n f) (.isl es n' g):=by grind [Ent.isl]
theorem ObEnt.refl {os:List (Option Ob)} (o:Ob):ObEnt os o o:=⟨by rw [tyc_refl],rfl,rfl,fun _ _ _ _=>Ent.refl _⟩
theorem ObsEnt.refl {os:List (Option Ob)}:∀ l:List (Option Ob),ObsEnt os l l
 | []=>trivial
 | none::l=>ObsEnt.refl l
 | some o::l=>⟨.refl o,ObsEnt.refl l⟩
theorem EntL.refl {os:List (Option Ob)}:∀ l:List AV,EntL os l l
 | []=>trivial
 | a::l=>⟨Ent.refl a,EntL.refl l⟩
theorem Ent.atL {os:List (Option Ob)} {l l':List AV} (h:EntL os l l') (j:Nat):Ent os (atL l j) (atL l' j):=by
 obtain ⟨h1,h2⟩:=h.spec
 grind [Am.atL,List.getElem?_eq_getElem,List.getElem?_eq_none,Ent.refl]
theorem ObEnt.row {os:List (Option Ob)} {es:Nat} {mu:Bool} {l l':List AV} (h:EntL os l l'):ObEnt os ⟨es,1,mu,.lst [l]⟩ ⟨es,1,mu,.lst [l']⟩:=⟨rfl,rfl,rfl,fun i j hi _=>by
 have hi:i<1:=hi
 obtain rfl:i=0:=by omega
 exact Ent.atL h j⟩
theorem ObEnt.junk {os:List (Option Ob)} {es n:Nat} {mu:Bool} {f:Rep}:ObEnt os ⟨es,n,mu,f⟩ ⟨es,n,mu,.fn fun _ _=>.junk⟩:=⟨rfl,rfl,rfl,fun _ _ _ _=>Ent.junk _⟩
theorem ObEnt.zero {os:List (Option Ob)} {es:Nat} {mu:Bool} {f g:Rep} (ht:tyc f g=true:=by rfl):ObEnt os ⟨es,0,mu,f⟩ ⟨es,0,mu,g⟩:=⟨congrArg (Prod.mk es) ht,rfl,rfl,fun i _ hi _=>by grind⟩
theorem atL_map_range {es j:Nat} {g:Nat→AV} (hj:j<es):Am.atL ((List.range es).map g) j=g j:=by grind [Am.atL,List.getElem?_range]
theorem ObEnt.len {os:List (Option Ob)} {es n n':Nat} {mu:Bool} {f:Rep} (h:n=n'):ObEnt os ⟨es,n,mu,f⟩ ⟨es,n',mu,f⟩:=by grind [refl]
theorem ObEnt.push {os:List (Option Ob)} {es x x':Nat} {mu:Bool} {k:IntKind} {f:Nat→Nat→Int} {l:List AV} (h:l=(List.range es).map (fun j=>.int k (f x j))) (hx:x'=x+1) :
  ObEnt os ⟨es,x+1,mu,.fn fun i j=>.int k (bif Nat.blt i x then f i j else intOfAV (Am.atL l j))⟩ ⟨es,x',mu,.fn fun i j=>.int k (f i j)⟩:=by
 subst hx
 refine ⟨rfl,rfl,rfl,fun i j hi hj=>Ent.of_eq ?_⟩
 have hi:i<x+1:=hi
 have hj:j<es:=hj
 show AV.int k _=AV.int k _
 cases hb:Nat.blt i x with
 | true=>rfl
 | false =>
  have:i=x:=by grind [Nat.blt_eq]
  subst this
  rw [h,atL_map_range hj]
  rfl
theorem ObEnt.cat {os:List (Option Ob)} {es n m n':Nat} {mu:Bool} {f g h:Rep} (hn:n'=n+m) (h1:∀ i j,i<n→j<es→Ent os (f i j) (h i j)) (h2:∀ i j,i<m→j<es→Ent os (g i j) (h (n+i) j)) (ht:tyc (.cat n f g) h=true:=by rfl) :
  ObEnt os ⟨es,n+m,mu,.cat n f g⟩ ⟨es,n',mu,h⟩:=by
 subst hn
 refine ⟨congrArg (Prod.mk es) ht,rfl,rfl,fun i j hi hj=>?_⟩
 have hi:i<n+m:=hi
 show Ent os (mixA (Nat.blt i n) (f.at i j) (g.at (i - n) j)) (h i j)
 grind [Nat.blt,n,mixA_tt,Nat.blt_eq,mixA_ff,Nat.le_of_not_lt]
theorem ObEnt.put {os:List (Option Ob)} {es n k:Nat} {mu:Bool} {x:List AV} {f h:Rep} (h1:∀ j,k<n→j<es→Ent os (Am.atL x j) (h k j)) (h2:∀ i j,i<n→i≠k→j<es→Ent os (f i j) (h i j)) (ht:tyc (.put k x f) h=true:=by rfl) :
  ObEnt os ⟨es,n,mu,.put k x f⟩ ⟨es,n,mu,h⟩:=by
 refine ⟨congrArg (Prod.mk es) ht,rfl,rfl,fun i j hi hj=>?_⟩
 have hi:i<n:=hi
 show Ent os (mixA (Nat.beq i k) (Am.atL x j) (f.at i j)) (h i j)
 grind [Nat.beq,mixA_tt,Nat.eq_of_beq_eq_true,mixA_ff,Nat.beq_refl]
theorem ObEnt.catRow {os:List (Option Ob)} {es n n':Nat} {mu:Bool} {c c':Nat→List AV} {x:List AV} (hn:n'=n+1) (hc:∀ i,i<n→EntL os (c i) (c' i)) (hx:EntL os x (c' n)) :
  ObEnt os ⟨es,n+1,mu,.cat n (.row c) (.lst [x])⟩ ⟨es,n',mu,.row c'⟩ :=
 ObEnt.cat hn (fun i j hi _=>Ent.atL (hc i hi) j) (fun i j hi _=>by
  obtain rfl:i=0:=by omega
  exact Ent.atL hx j)
theorem ObEnt.pushRow {os:List (Option Ob)} {es n n':Nat} {mu:Bool} {c:Nat→List AV} (hn:n'=n+1):ObEnt os ⟨es,n+1,mu,.cat n (.row c) (.lst [c n])⟩ ⟨es,n',mu,.row c⟩ :=
 ObEnt.catRow hn (fun _ _=>EntL.refl _) (EntL.refl _)
def ilF (k:IntKind) (l:List Int):Nat→Nat→AV:=fun i _=>.int k (l.getD i 0)
abbrev il (k:IntKind) (l:List Int):AV:=.isl 1 l.length (ilF k l)
abbrev ilO (k:IntKind) (l:List Int):Option Ob:=some ⟨1,l.length,true,.fn (ilF k l)⟩
theorem ObEnt.pushL {os:List (Option Ob)} {mu:Bool} {k:IntKind} {l l':List Int} {v:Int} (h:l'=l++[v]) :
  ObEnt os ⟨1,l.length+1,mu,.fn fun i j=>.int k (bif Nat.blt i l.length then l.getD i 0 else intOfAV (Am.atL [.int k v] j))⟩ ⟨1,l'.length,mu,.fn (ilF k l')⟩:=by
 subst h
 refine ⟨rfl,by simp,rfl,fun i j hi hj=>Ent.of_eq ?_⟩
 have hi:i<l.length+1:=hi
 have hj:j<1:=hj
 obtain rfl:j=0:=by omega
 show AV.int k _=AV.int k _
 grind [Nat.blt,Nat.blt_eq,List.getElem?_append_left,atL,intOfAV]
theorem Ent.nsl {os:List (Option Ob)} {es:Nat} {f:Nat→Nat→AV}:Ent os .nsl (.isl es 0 f):=fun _ _ _ _ hr=>by
 cases hr;exact .isl0 (fun _=>rfl)
theorem Ent.nilL {os:List (Option Ob)} {k:IntKind} {l:List Int} (h:l=[]):Ent os .nsl (il k l):=by grind [Ent.nsl]
theorem Ent.ilL {os:List (Option Ob)} {k:IntKind} {l l':List Int} (h:l=l'):Ent os (.isl 1 l.length fun i _=>.int k (l.getD i 0)) (il k l'):=by subst h;exact Ent.refl _
theorem Ent.two {os:List (Option Ob)} {es:Nat} {x y:List AV} {g:Nat→List AV} (h0:x=g 0) (h1:y=g 1):Ent os (.isl es 2 fun r k=>Am.atL (List.getD [x,y] r []) k) (.isl es 2 fun i j=>Am.atL (g i) j):=by grind [Ent.isl]
theorem Ent.agg {os:List (Option Ob)} {l l':List AV} (h:EntL os l l'):Ent os (.agg l) (.agg l'):=fun _ _ _ hh hr=>by
 obtain ⟨h1,h2⟩:=h.spec
 obtain ⟨vs,rfl,hl,hr⟩:=rel_agg_inv hr
 refine .agg (by omega) fun j u x hu hx=>?_
 have hj:j<l.length:=by grind
 exact h2 j l[j] u (by simp) hu _ _ _ hh (hr j _ _ (by simp) hx)
theorem Ent.tup {os:List (Option Ob)} {l l':List AV} (h:EntL os l l'):Ent os (.tup l) (.tup l'):=fun _ _ _ hh hr=>by
 obtain ⟨h1,h2⟩:=h.spec
 obtain ⟨vs,rfl,hl,hr⟩:=rel_tup_inv hr
 refine .tup (by omega) fun j u x hu hx=>?_
 have hj:j<l.length:=by grind
 exact h2 j l[j] u (by simp) hu _ _ _ hh (hr j _ _ (by simp) hx)
section
variable {P : Program} {gl : Globs} {f : FuncId}
theorem Gives.nilSplit {obs:List Ob} {r:AV} {obs':List (Option Ob)} (pre post:List AV) (es n:Nat) (g:Nat→Nat→AV) (h1:n=0→Gives P gl f obs (pre++.nsl::post) r obs')
  (h2:Gives P gl f obs (pre++.nn (.isl es n g)::post) r obs'):Gives P gl f obs (pre++.isl es n g::post) r obs':=by
 refine ⟨h2.1,fun β w vs hF hgiv hgl hargs=>?_⟩
 have hx:∀ (a b:AV),(∀ v,vs[pre.length]? = some v→Rel β w b v)→Rels β w (pre++a::post) vs→Rels β w (pre++b::post) vs:=fun a b hb hr=>by
  refine ⟨by have:=hr.len;grind,fun j u x hu hxx=>?_⟩
  rcases Nat.lt_trichotomy j pre.length with h|h|h
  ·refine hr.rel j u x ?_ hxx
   grind
  ·grind
  ·refine hr.rel j u x ?_ hxx
   grind
 obtain ⟨v,hv,hr⟩:=hargs.at (j:=pre.length) (u:=.isl es n g) (by simp)
 obtain ⟨a,cap,rfl,hcap,hnil,_⟩:=rel_isl_inv hr
 cases a with
 | none =>
  have hc:=hnil rfl
  subst hc
  have hn:n=0:=by omega
  subst hn
  exact (h1 rfl).2 β w vs hF hgiv hgl (hx _ _ (fun v' hv'=>by rw [hv] at hv';cases hv';exact .nsl) hargs)
 | some ad=>exact h2.2 β w vs hF hgiv hgl (hx _ _ (fun v' hv'=>by rw [hv] at hv';cases hv';exact .nn hr) hargs)
theorem Gives.nil {obs:List Ob} {args:List AV} {obs':List (Option Ob)} (h:Gives P gl f obs args .nsl obs') (es:Nat) (g:Rep) :
  Gives P gl f obs args (.osl obs'.length es 0 0) (obs'++[some ⟨es,0,true,g⟩]):=by
 refine ⟨h.1,fun β w vs hF hgiv hgl hargs=>(h.2 β w vs hF hgiv hgl hargs).mono fun e w' hh=>?_⟩
 obtain ⟨v,β',he,hk,hA,hr⟩:=hh
 have hn:=hA.none obs'.length (Nat.le_refl _)
 let β2:Book:=setB β' [(obs'.length,.empty)]
 have at0:β2.m obs'.length=some .empty:=setB_at (by rw [look_one,if_pos rfl])
 have old:∀ k,k≠obs'.length→β2.m k=β'.m k:=fun k hk=>setB_old (by simp_all [look_one]<;>omega)
 have lv:∀ k b n mu,β2.m k=some (.lives b n mu)→β'.m k=some (.lives b n mu):=fun k b n mu hb=>by grind
 have kk:Keeps β' w' β2 w':=⟨fun id o ho=>⟨o,by grind,o.later_refl⟩,fun _ _ _=>rfl,fun b _ hf=>⟨hf.1,fun id n h=>hf.2 id n (lv _ _ _ _ h)⟩,fun _ _ _ h=>h⟩
 cases hr
 refine ⟨_,β2,he,hk,⟨hA.F,fun k ob hkk=>?_,fun k hkk=>?_,fun i j b n n' mu mu' h1 h2=>hA.inj i j b n n' mu mu' (lv _ _ _ _ h1) (lv _ _ _ _ h2),fun k b n mu hb=>hA.live k b n mu (lv _ _ _ _ hb),fun k o ho=>?_⟩,.osl0 (by grind)⟩
 ·by_cases e:k=obs'.length
  ·subst e
   simp at hkk
   subst hkk
   exact .inr ⟨at0,rfl⟩
  ·have hkk':obs'[k]? = some (some ob):=by grind
   rcases hA.holds k ob hkk' with ⟨b,g1,g2⟩|⟨g1,g2⟩
   ·exact .inl ⟨b,by grind,g2.keep kk rfl⟩
   ·exact .inr ⟨by grind,g2⟩
 ·simp at hkk
  rw [old k (by omega)]
  exact hA.none k (by omega)
 ·obtain ⟨o',g1,g2⟩:=hA.later k o ho
  grind
theorem Gives.ent {obs:List Ob} {args:List AV} {r r':AV} {obs' obs2:List (Option Ob)} (h:Gives P gl f obs args r obs') (hr:Ent obs' r r') (ho:ObsEnt obs' obs' obs2):Gives P gl f obs args r' obs2:=by
 refine ⟨h.1,fun β w vs hF hgiv hgl hargs=>(h.2 β w vs hF hgiv hgl hargs).mono fun e w' hh=>?_⟩
 obtain ⟨v,β',he,hk,hA,hv⟩:=hh
 obtain ⟨hl,hs⟩:=ho.spec
 have hHas:Has obs' β':=fun k o hk=>by rcases hA.holds k o hk with ⟨b,g,_⟩|⟨g,_⟩<;>(grind)
 refine ⟨v,β',he,hk,⟨hA.F,fun k ob hkk=>?_,fun k hkk=>hA.none k (by omega),hA.inj,hA.live,hA.later⟩,hr _ _ _ hHas hv⟩
 obtain ⟨o1,g1,g2⟩:=hs k ob hkk
 have e1:=g2.es;have e2:=g2.n;have e3:=g2.mu;have e4:=g2.f
 rcases hA.holds k o1 g1 with ⟨b,k1,cs,el,k2,k3,k4⟩|⟨k1,k2⟩
 ·refine .inl ⟨b,by grind,cs,el,k2,k3.ent g2,fun i j hi hj=>?_⟩
  rw [← e2] at hi
  rw [← e1] at hj ⊢
  obtain ⟨vv,j1,j2,j3⟩:=k4 i j hi hj
  exact ⟨vv,j1,e4 i j hi hj _ _ _ hHas j2,j3⟩
 ·exact .inr ⟨k1,by omega⟩
theorem Gives.via {obs:List Ob} {args args':List AV} {r:AV} {obs':List (Option Ob)} (h:Gives P gl f obs args' r obs') (he:EntL (obs.map some) args args'):Gives P gl f obs args r obs':=by
 refine ⟨h.1,fun β w vs hF hgiv hgl hargs=>h.2 β w vs hF hgiv hgl ?_⟩
 obtain ⟨h1,h2⟩:=he.spec
 have hHas:Has (obs.map some) β:=fun k o hk=>by
  rw [List.getElem?_map] at hk
  cases ho:obs[k]? with
  | none=>grind
  | some ob=>rcases hgiv.holds k ob ho with ⟨b,g,_⟩|⟨g,_⟩<;>(grind)
 refine ⟨by rw [← h1];exact hargs.len,fun j u x hu hx=>?_⟩
 have hj:j<args.length:=by grind
 exact h2 j args[j] u (by simp) hu _ _ _ hHas (hargs.rel j _ _ (by simp) hx)
theorem Pure.via {args args':List AV} {r:AV} (h:Pure P gl f args' r) (he:EntL [] args args'):Pure P gl f args r:=Gives.via h he
theorem Ent.rows {os:List (Option Ob)} {es n:Nat} {f g:Nat→Nat→AV} (h:∀ i,i<n→(List.range es).map (f i)=(List.range es).map (g i)):Ent os (.isl es n f) (.isl es n g) :=
 Ent.isl fun i j hi hj=>by simp_all
theorem Pure.ent {args:List AV} {r r':AV} (h:Pure P gl f args r) (hr:Ent [] r r'):Pure P gl f args r':=Gives.ent h hr trivial
end
end Go.Am

namespace Go.Sp
open Go.IntKind (wrap)
open Int (toNat)
open Go Go.Am
theorem wI {n:Int} (h : -9223372036854775808≤n) (h':n≤9223372036854775807):IntKind.wrap .i64 n=n:=by simp_all [IntKind.wrap,IntKind.bits,IntKind.signed,Bool.true_and,decide_eq_true_eq,ge_iff_le]<;>omega
def nodeB (d l i:Int):Bool:=decide (0≤d∧d≤5∧0≤l∧l≤d∧0≤i∧i<2^l.toNat)
def spanA (d l i:Int):Int:=if nodeB d l i then i*2^(d - l).toNat else 0
def spanZ (d l i:Int):Int:=if nodeB d l i then (i+1)*2^(d - l).toNat else 0
def spanE (d l i:Int):Int:=if d<0∨5<d then 1 else if nodeB d l i then 0 else 2
theorem node_m (d l i:Int):(decide (d≥0)&&decide (d≤5)&&decide (l≥0)&&decide (l≤d)&&decide (i≥0)&&decide (i<wrap .i64 (1*2^min (toNat l) 64)))=nodeB d l i:=by
 by_cases hl:0≤l∧l≤5
 ·have:wrap .i64 (1*2^min (toNat l) 64)=2^l.toNat:=by
   rcases (by omega:l=0∨l=1∨l=2∨l=3∨l=4∨l=5) with rfl|rfl|rfl|rfl|rfl|rfl<;>decide
  grind [nodeB,Bool.and_assoc]
 ·rw [Bool.eq_iff_iff]
  grind [nodeB]
theorem node_t {d l i:Int} (h:nodeB d l i=true):0≤d∧d≤5∧0≤l∧l≤d∧0≤i∧i<2^l.toNat:=by grind [nodeB]
theorem p2 {k:Int} (h0:0≤k) (h1:k≤5):wrap .i64 (1*2^min (toNat k) 64)=2^k.toNat∧min (toNat k) 64=k.toNat∧1≤(2:Int)^k.toNat∧(2:Int)^k.toNat≤32:=by
 rcases (by omega:k=0∨k=1∨k=2∨k=3∨k=4∨k=5) with rfl|rfl|rfl|rfl|rfl|rfl<;>decide
theorem span_1 {d l i:Int} (h:(decide (d<0)||decide (d>5))=true):spanA d l i=0∧spanZ d l i=0∧spanE d l i=1:=by grind [nodeB,node_t,spanA,spanZ,spanE]
theorem span_2 {d l i:Int} (h:(decide (d<0)||decide (d>5))=false) (hn:(!nodeB d l i)=true):spanA d l i=0∧spanZ d l i=0∧spanE d l i=2:=by grind [nodeB,spanA,spanZ,spanE]
theorem bnd {i a b:Int} (h0:0≤i) (h1:i<a) (h2:a≤32) (h3:1≤b) (h4:b≤32):0≤i*b∧i*b≤1024∧0≤(i+1)*b∧(i+1)*b≤1056:=by
 have e1:i*b≤32*32:=Int.mul_le_mul (by omega) h4 (by omega) (by omega)
 have e2:=Int.mul_nonneg h0 (show 0≤b by omega)
 grind
theorem span_3 {d l i:Int} (hn:(!nodeB d l i)=false):IntKind.wrap .i64 (i*IntKind.wrap .i64 (1*2^min (toNat (IntKind.wrap .i64 (d - l))) 64))=spanA d l i ∧
  IntKind.wrap .i64 (IntKind.wrap .i64 (i+1)*IntKind.wrap .i64 (1*2^min (toNat (IntKind.wrap .i64 (d - l))) 64))=spanZ d l i∧spanE d l i=0∧0≤IntKind.wrap .i64 (d - l):=by
 have hn:nodeB d l i=true:=by grind
 obtain ⟨h1,h2,h3,h4,h5,h6⟩:=node_t hn
 have e:IntKind.wrap .i64 (d - l)=d - l:=wI (by omega) (by omega)
 obtain ⟨q1,_,q2,q3⟩:=p2 (k:=d - l) (by omega) (by omega)
 obtain ⟨_,_,r2,r3⟩:=p2 (k:=l) (by omega) (by omega)
 obtain ⟨b1,b2,b3,b4⟩:=bnd h5 h6 r3 q2 q3
 grind [wI,spanA,spanZ,spanE]
abbrev Sub {α:Type} (p:α→Prop):Type:={x:α // p x}
structure Spend where
  bank : Int
  epoch : Int
  denom : Int
  depth : Int
  a : Int
  root : Nat → Int
  z : Int
  sa : Int
  sb : Int
  r : Int
  level : Int
  index : Int
  payee : Nat → Int
  time : Int
  number : Int
  nl : Nat
  lf : Nat → Nat → Int
  pidx : Int
  np : Nat
  pf : Nat → Nat → Int
abbrev lvs (n:Nat) (f:Nat→Nat→Int):AV:=.isl 3 n (fun i j=>.int .i64 (f i j))
abbrev hss (n:Nat) (f:Nat→Nat→Int):AV:=.isl 32 n (fun i j=>.int .u8 (f i j))
def Spend.cw (s:Spend) (x y:AV):List AV:=[.int .i64 s.bank,.int .i64 s.epoch,.int .i64 s.denom,.int .i64 s.depth,.int .i64 s.a,.int .u8 (s.root 0),.int .u8 (s.root 1),.int .u8 (s.root 2),.int .u8 (s.root 3),.int .u8 (s.root 4),.int .u8 (s.root 5),.int .u8 (s.root 6),.int .u8 (s.root 7),.int .u8 (s.root 8),.int .u8 (s.root 9),.int .u8 (s.root 10),.int .u8 (s.root 11),.int .u8 (s.root 12),.int .u8 (s.root 13),.int .u8 (s.root 14),.int .u8 (s.root 15),.int .u8 (s.root 16),.int .u8 (s.root 17),.int .u8 (s.root 18),.int .u8 (s.root 19),.int .u8 (s.root 20),.int .u8 (s.root 21),.int .u8 (s.root 22),.int .u8 (s.root 23),.int .u8 (s.root 24),.int .u8 (s.root 25),.int .u8 (s.root 26),.int .u8 (s.root 27),.int .u8 (s.root 28),.int .u8 (s.root 29),.int .u8 (s.root 30),.int .u8 (s.root 31),.int .i64 s.z,.int .i64 s.sa,.int .i64 s.sb,.int .i64 s.r,.int .i64 s.level,.int .i64 s.index,.int .u8 (s.payee 0),.int .u8 (s.payee 1),.int .u8 (s.payee 2),.int .u8 (s.payee 3),.int .u8 (s.payee 4),.int .u8 (s.payee 5),.int .u8 (s.payee 6),.int .u8 (s.payee 7),.int .u8 (s.payee 8),.int .u8 (s.payee 9),.int .u8 (s.payee 10),.int .u8 (s.payee 11),.int .u8 (s.payee 12),.int .u8 (s.payee 13),.int .u8 (s.payee 14),.int .u8 (s.payee 15),.int .u8 (s.payee 16),.int .u8 (s.payee 17),.int .u8 (s.payee 18),.int .u8 (s.payee 19),.int .u8 (s.payee 20),.int .u8 (s.payee 21),.int .u8 (s.payee 22),.int .u8 (s.payee 23),.int .u8 (s.payee 24),.int .u8 (s.payee 25),.int .u8 (s.payee 26),.int .u8 (s.payee 27),.int .u8 (s.payee 28),.int .u8 (s.payee 29),.int .u8 (s.payee 30),.int .u8 (s.payee 31),.int .i64 s.time,.int .i64 s.number,x,.int .i64 s.pidx,y]
def Spend.cells (s:Spend):List AV:=s.cw (lvs s.nl s.lf) (hss s.np s.pf)
def Spend.av (s:Spend):AV:=.agg s.cells
def okS (s:Spend):Bool := !(spanE s.depth s.level s.index != 0||(s.nl:Int) != IntKind.wrap .i64 (spanZ s.depth s.level s.index - spanA s.depth s.level s.index)||decide (s.time<0)||decide (s.time>1099511627776)||decide (s.number<0)||decide (s.number>1073741824))
def firstI (p:Nat→Bool):Nat→Nat→Int
 | 0,_ => -1
 | k+1,i=>if p i then i else firstI p k (i+1)
theorem firstI_step {p:Nat→Bool} {n i:Nat} (h:i<n):firstI p (n - i) i=if p i then (i:Int) else firstI p (n - (i+1)) (i+1):=by
 rw [show n - i=(n - (i+1))+1 by omega];rfl
theorem firstI_end {p:Nat→Bool} {n i:Nat} (h:n≤i):firstI p (n - i) i = -1:=by
 rw [show n - i=0 by omega];rfl
theorem firstI_neg {p:Nat→Bool}:∀ k i,(decide (firstI p k i≥0))=(List.range k).any (fun q=>p (i+q))
 | 0,i=>rfl
 | k+1,i=>by
  have ih:=firstI_neg (p:=p) k (i+1)
  have e:(List.range (k+1)).any (fun q=>p (i+q))=(p i||(List.range k).any (fun q=>p (i+1+q))):=by
   rw [List.range_succ_eq_map,List.any_cons,List.any_map]
   grind
  rw [e,← ih]
  by_cases h:p i=true
  ·simp_all [firstI]
  simp_all [firstI]
theorem first_hit {p:Nat→Bool} {A:Int} {n i:Nat} (hx:A=firstI p (n - i) i) (h:i<n) (hp:p i=true):(i:Int)=A:=by simp_all [firstI_step]
theorem first_next {p:Nat→Bool} {A:Int} {n i:Nat} (hx:A=firstI p (n - i) i) (h:i<n) (hp:p i=false):A=firstI p (n - (i+1)) (i+1):=by simp_all [firstI_step]
theorem first_miss {p:Nat→Bool} {A:Int} {n i:Nat} (hx:A=firstI p (n - i) i) (h:n≤i) : -1=A:=by grind [firstI_end]
theorem inc_ent {os:List (Option Ob)} {i:Nat} (h:i<9223372036854775807):Ent os (.int .i64 (IntKind.wrap .i64 (Nat.cast i+1))) (.int .i64 (Nat.cast (i+1))):=Ent.of_eq (by grind [wI])
theorem wU_nonneg (x:Int):0≤IntKind.wrap .u64 x:=by simp_all [IntKind.wrap,IntKind.bits,IntKind.signed,Bool.false_and]<;>omega
def placeB (d l i:Int):Bool:=decide (l≥0)&&decide (l≤d)&&decide (i≥0)&&decide (i<wrap .i64 (1*2^min (toNat l) 64))
theorem place_node (d l i:Int):(decide (d≥0)&&decide (d≤5)&&placeB d l i)=nodeB d l i:=by
 rw [← node_m];simp [placeB,Bool.and_assoc]
def ctxB (t n:Int):Bool:=decide (t≥0)&&decide (t≤1099511627776)&&decide (n≥0)&&decide (n≤1073741824)
theorem rspan_m {d l i:Int} (hn:nodeB d l i=true):IntKind.wrap .i64 (i*IntKind.wrap .i64 (1*2^min (toNat (IntKind.wrap .u64 (IntKind.wrap .i64 (d - l)))) 64))=spanA d l i ∧
  IntKind.wrap .i64 (IntKind.wrap .i64 (i+1)*IntKind.wrap .i64 (1*2^min (toNat (IntKind.wrap .u64 (IntKind.wrap .i64 (d - l)))) 64))=spanZ d l i:=by
 obtain ⟨h1,h2,h3,h4,h5,h6⟩:=node_t hn
 have e:IntKind.wrap .i64 (d - l)=d - l:=wI (by omega) (by omega)
 have e2:IntKind.wrap .u64 (d - l)=d - l:=by simp_all [IntKind.wrap,IntKind.bits,IntKind.signed,Bool.false_and]<;>omega
 grind [span_3]
theorem okS_no {s:Spend} (h:(decide (s.depth<0)||decide (s.depth>5) || !nodeB s.depth s.level s.index || !ctxB s.time s.number)=true):okS s=false:=by grind [okS,spanE,nodeB,ctxB]
theorem okS_yes {s:Spend} (h:(decide (s.depth<0)||decide (s.depth>5) || !nodeB s.depth s.level s.index || !ctxB s.time s.number)=false) :
  nodeB s.depth s.level s.index=true∧((s.nl:Int)==IntKind.wrap .i64 (spanZ s.depth s.level s.index - spanA s.depth s.level s.index))=okS s:=by
 simp [ctxB] at h
 obtain ⟨⟨⟨h1,h2⟩,h3⟩,h4⟩:=h
 refine ⟨h3,?_⟩
 have he:spanE s.depth s.level s.index=0:=by simp_all [spanE,if_neg]
 grind [decide,okS,bne]
def found (b:Spend) (v:Int):Bool:=decide (firstI (fun i=>b.lf i 0==v) b.nl 0≥0)
def fromS (a:Spend):Int:=bif okS a then spanA a.depth a.level a.index else 0
def toS (a:Spend):Int:=bif okS a then spanZ a.depth a.level a.index else 0
def sharedN (a b:Spend) (x:Nat):List Int:=((List.range x).filter fun i=>found b (a.lf i 0)).map fun (i:Nat)=>fromS a+(i:Int)
def sharedL (a b:Spend):List Int:=if a.a≠b.a then [] else sharedN a b a.nl
theorem sharedN_t {a b:Spend} {x:Nat} (h:found b (a.lf x 0)=true):sharedN a b (x+1)=sharedN a b x++[fromS a+x]:=by grind [sharedN,List.range_succ]
theorem sharedN_f {a b:Spend} {x:Nat} (h:found b (a.lf x 0)=false):sharedN a b (x+1)=sharedN a b x:=by grind [sharedN,List.range_succ]
theorem sharedN_lt {a b:Spend} {x:Nat} (h:found b (a.lf x 0)=true):(sharedN a b x).length+1=(sharedN a b (x+1)).length:=by grind [sharedN_t]
theorem sharedN_lf {a b:Spend} {x:Nat} (h:found b (a.lf x 0)=false):(sharedN a b x).length=(sharedN a b (x+1)).length:=by rw [sharedN_f h]
theorem sharedN_len (a b:Spend) (x:Nat):(sharedN a b x).length≤x:=by grind [sharedN,List.length_map,List.length_filter_le,found,List.range]
theorem fromS_bnd (a:Spend):0≤fromS a∧fromS a≤1024:=by
 unfold fromS
 cases okS a with
 | false=>simp
 | true =>
  simp only [cond_true,spanA]
  split
  ·rename_i h
   obtain ⟨h1,h2,h3,h4,h5,h6⟩:=node_t h
   obtain ⟨q1,_,q2,q3⟩:=p2 (k:=a.depth - a.level) (by omega) (by omega)
   obtain ⟨_,_,r2,r3⟩:=p2 (k:=a.level) (by omega) (by omega)
   obtain ⟨b1,b2,b3,b4⟩:=bnd h5 h6 r3 q2 q3
   omega
  omega
theorem sharedN_w {a b:Spend} {x:Nat} (hx:x≤1000) (h:found b (a.lf x 0)=true):sharedN a b (x+1)=sharedN a b x++[IntKind.wrap .i64 (fromS a+x)]:=by
 have:=fromS_bnd a
 grind [sharedN_t,wI]
theorem shared_same {os:List (Option Ob)} {a b:Spend} {x:Nat} (h:found b (a.lf x 0)=false):ObEnt os ⟨1,(sharedN a b x).length,true,.fn (ilF .i64 (sharedN a b x))⟩ ⟨1,(sharedN a b (x+1)).length,true,.fn (ilF .i64 (sharedN a b (x+1)))⟩:=by
 rw [sharedN_f h];exact .refl _
theorem shared_end {a b:Spend} {x:Nat} (h0:(a.a != b.a)=false) (hx:x=a.nl):sharedN a b x=sharedL a b:=by
 subst hx;exact (if_neg (by grind)).symm
theorem shared_none {a b:Spend} (h0:(a.a != b.a)=true):sharedL a b=[]:=if_pos (by grind)
theorem formed2_m (a b:Spend):(!decide (firstI (fun i => !okS (bif Nat.beq i 0 then a else b)) 2 0≥0))=(okS a&&okS b):=by
 rw [firstI_neg]
 have:List.range 2=[0,1]:=rfl
 rw [this]
 simp
 rfl
theorem both {a b:Bool} (h:(!(a&&b))=false):(a&&b)=true:=by grind
def Spend.zero:Spend:=⟨0,0,0,0,0,fun _=>0,0,0,0,0,0,0,fun _=>0,0,0,0,fun _ _=>0,0,0,fun _ _=>0⟩
def altE (s:Spend) (k b:Int):Int:=if okS s then (if k<0∨11<k∨b<1∨1000<b then 2 else if (k=10∧s.nl=1)∨(k=11∧s.np=0) then 7 else 0) else 1
def x1 (n:Int):Int:=IntKind.wrap .u8 (BitVec.toNat (BitVec.ofInt 8 n ^^^ BitVec.ofInt 8 1))
theorem atL_app {l l':List AV} {n t:Nat} (h:l.length=n):atL (l++l') (n+t)=atL l' t:=by grind [atL,List.getElem?_append_right,Nat.add_sub_cancel_left]
theorem atL_left {l l':List AV} {t:Nat} (h:t<l.length):atL (l++l') t=atL l t:=by grind [atL,List.getElem?_append_left]
theorem root_at (s:Spend) (x y:AV) {t:Nat} (ht:t<32):intOfAV (atL (s.cw x y) (5+t))=s.root t:=by
 have e:s.cw x y=[.int .i64 s.bank,.int .i64 s.epoch,.int .i64 s.denom,.int .i64 s.depth,.int .i64 s.a]++((List.range 32).map (fun j=>.int .u8 (s.root j))++(s.cw x y).drop 37):=rfl
 rw [e,atL_app (n:=5) rfl,atL_left (by grind),atL_map_range ht]
 rfl
structure AltOk (s : Spend) (k b : Int) : Prop where
  e : altE s k b = 0
  k0 : 0 ≤ k
  k1 : k ≤ 11
  b0 : 0 ≤ b
  nl : 0 < s.nl
  np : k = 11 → 0 < s.np
end Go.Sp
