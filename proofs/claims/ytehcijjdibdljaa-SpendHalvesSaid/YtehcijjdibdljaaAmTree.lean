/-
  The engine, part 7: the walk as a tree ('run'), and what is asked at each of its nodes ('Tree.wp').
-/
import Derived.Test.YtehcijjdibdljaaAmCall
namespace Go.Am
open Go.RowKit

/-- The state between regions. -/
structure ASt where
  fr : Nat → AV
  H : Heap
  c : Nat

inductive AExit where
  | normal
  | leave (id : Nat)
  | ret

/-- P: the program; gl: what is known of its variables; nt: how many slots. -/
structure Cfg where
  P : Program
  gl : Globs
  nt : Nat

inductive Tree where
  | bad (why : String)
  | fin (p : Prop)
  | br (b : Bool) (t e : Tree)
  | req (p : Prop) (t : Tree)
  | scall (g : Bool) (f : FuncId) (args : List AV) (k : AV → Tree)
  | dcall (g : Bool) (f : FuncId) (args : List AV) (k : AV → Tree)
  | out (v : Option AV) (r : AV)

/-- Whatever the first describes, the second describes it too. -/
def Ent (a b : AV) : Prop := ∀ β w v, Rel β w a v → Rel β w b v
theorem Ent.refl (a : AV) : Ent a a := fun _ _ _ h => h
theorem Ent.of_eq {a b : AV} (h : a = b) : Ent a b := h ▸ Ent.refl a

def Tree.wp (P : Program) (gl : Globs) : Tree → Prop
  | .bad _ => False
  | .fin p => p
  | .br b t e => (b = true → t.wp P gl) ∧ (b = false → e.wp P gl)
  | .req p t => p ∧ t.wp P gl
  | .scall g f args k => ∃ r, (g = true → Pure P gl f args r) ∧ sc 9 r = true ∧ (k r).wp P gl
  | .dcall g f args k => ∃ r, (g = true → Pure P gl f args r) ∧ (k r).wp P gl
  | .out v r => ∃ x, v = some x ∧ Ent x r

/-- Which objects a value leads to at once. -/
def rch : Nat → Heap → AV → List Nat
  | 0, _, _ => []
  | n + 1, H, .own id _ _ _ _ => id :: (match H id with
    | some o => bif Nat.beq o.n 1 then (List.range o.es).flatMap (fun q => rch n H (o.f 0 q)) else []
    | none => [])
  | _ + 1, _, .osl id _ _ _ => [id]
  | n + 1, H, .agg cs => cs.flatMap (rch n H)
  | n + 1, H, .tup cs => cs.flatMap (rch n H)
  | n + 1, H, .fn _ fs cs => fs.flatMap (rch n H) ++ cs.flatMap (rch n H)
  | n + 1, H, .ifc _ v => rch n H v
  | _ + 1, _, _ => []

def memN (l : List Nat) (n : Nat) : Bool := l.any (Nat.beq n)

def frzH (ids : List Nat) (H : Heap) : Heap := fun id => match H id with
  | some o => bif memN ids id then some { o with mu := false } else some o
  | none => none

/-- Is a value of this type free of whatever leads to memory? -/
def scT (P : Program) : Nat → TypeId → Bool
  | 0, _ => false
  | n + 1, t => match P.underlying t with
    | some .bool | some (.int _) | some .string => true
    | some (.struct fs) => fs.all (fun f => scT P n f.type)
    | some (.array _ e) => scT P n e
    | some (.tuple ts) => ts.all (scT P n)
    | _ => false

/-- The function that a call enters, and what it is given. -/
def calleeOf (ρ : Operand → AV) : Op → Option (FuncId × List AV)
  | .call { callee := .value f, args := args, .. } => match ρ f with
    | .fn (.func g) first cap => some (g, first ++ args.toList.map ρ ++ cap)
    | _ => none
  | _ => none

def tagOk (ops : Array Oper) (s : RSt) (γ : Tag) : Operand → Bool
  | .tmp t => chainImp ops 20 γ (s.tg t)
  | _ => true

/-- An arm of 'a && b', 'a || b': its slot may have been written under the very guard that the test makes. -/
def armOk (ops : Array Oper) (s : RSt) (γ : Tag) (c : Operand) (want : Bool) (x : Operand) : Bool :=
  tagOk ops s γ x || (match c, x with
    | .tmp tc, .tmp tx => match s.tg tx with
      | some (j, b) => (b == want) && (match ops[j]? with
        | some o => (match o.dst with | some d => Nat.beq d tc | none => false) && chainImp ops 20 γ o.guard
        | none => false)
      | none => false
    | _, _ => false)

def opndOk (ops : Array Oper) (s : RSt) (o : Oper) : Bool :=
  match o.op with
  | .pick c a b => tagOk ops s o.guard c && armOk ops s o.guard c true a && armOk ops s o.guard c false b
  | op => op.operands.toList.all (tagOk ops s o.guard)

def okOp (nt : Nat) (ops : Array Oper) (s : RSt) (o : Oper) : Bool :=
  (match o.guard with | none => true | some (j, _) => (s.gt j).isSome) &&
  (match o.dst with | none => true | some d => Nat.blt d nt) && opndOk ops s o

/-- A store. -/
def estep (P : Program) (ρ : Operand → AV) (H : Heap) : Op → Option (Rq × AV × Heap)
  | .store t a x => match ρ a, acells (ρ x), szT P t with
    | .own id es i j m, some cs, some z => match H id with
      | some o => bif o.mu && Nat.beq o.es es && Nat.beq cs.length z && Nat.ble z m && cs.all AV.one then
          some (.no, .junk, upd H id (some { o with f := fun i' j' => bif Nat.beq i' i && (Nat.ble j j' && Nat.blt j' (j + z)) then atL cs (j' - j) else o.f i' j' }))
        else none
      | none => none
    | _, _, _ => none
  | _ => none

/-- The operations that write. -/
def isE : Op → Bool
  | .store .. => true
  | _ => false

theorem estep_isE {P : Program} {ρ : Operand → AV} {H : Heap} {op : Op} {x : Rq × AV × Heap} (h : estep P ρ H op = some x) : isE op = true := by
  cases op <;> first | rfl | (simp [estep] at h)
theorem mstep_isE {P : Program} {ρ : Operand → AV} {H : Heap} {nid : Nat} {op : Op} {x : Rq × AV × Option Ob} (h : mstep P ρ H nid op = some x) : isE op = false := by
  cases op <;> first | rfl | (simp [mstep] at h)
theorem callee_isE {ρ : Operand → AV} {op : Op} {x : FuncId × List AV} (h : calleeOf ρ op = some x) : isE op = false := by
  cases op <;> first | rfl | (simp [calleeOf] at h)

def mkReq (γ : Tag) (g : Bool) (q : Rq) (t : Tree) : Tree :=
  match q with
  | .no => t
  | .yes p => match γ with
    | none => .req p t
    | some _ => .req (g = true → p) t

def rtree (C : Cfg) (ops : Array Oper) (c : Nat) : List Oper → Nat → RSt → (RSt → Tree) → Tree
  | [], _, s, k => k s
  | o :: rest, i, s, k =>
    bif okOp C.nt ops s o then
      match calleeOf (ev C.gl s.fr) o.op with
      | some (f, as) =>
        bif scT C.P 9 o.type then .scall (s.G o.guard) f (as.map (frz false 9 s.H)) (fun r => rtree C ops c rest (i + 1) (s.put c i o r none) k)
        else
          let s1 : RSt := { s with H := frzH ((as.flatMap (rch 9 s.H)).filter fun id => (s.H id).isSome) s.H }
          .dcall (s.G o.guard) f (as.map (frz true 9 s1.H)) (fun r => rtree C ops c rest (i + 1) (s1.put c i o r none) k)
      | none => match estep C.P (ev C.gl s.fr) s.H o.op with
        | some (q, v, H') => match o.guard with
          | none => mkReq none true q (rtree C ops c rest (i + 1) ({ s with H := H' }.put c i o v none) k)
          | some _ => .bad "a store under a guard"
        | none => match mstep C.P (ev C.gl s.fr) s.H (c + i) o.op with
          | some (q, v, ob) => mkReq o.guard (s.G o.guard) q (rtree C ops c rest (i + 1) (s.put c i o v ob) k)
          | none => .bad o.pos
    else .bad o.pos

end Go.Am
