/-
  The engine, part 2: what an operation makes of abstract values ('mstep'), the state inside a region ('RSt'), and what it means ('RSim').
-/
import Derived.Test.YtehcijjdibdljaaAmCore
namespace Go.Am
open Go.RowKit

def upd {α : Type} (f : Nat → α) (n : Nat) (v : α) : Nat → α := fun m => bif Nat.beq m n then v else f m

theorem upd_same {α : Type} (f : Nat → α) (n : Nat) (v : α) : upd f n v n = v := by simp [upd]
theorem upd_ne {α : Type} (f : Nat → α) {n m : Nat} (v : α) (h : m ≠ n) : upd f n v m = f m := by
  have : Nat.beq m n = false := by
    cases hb : Nat.beq m n with
    | false => rfl
    | true => exact absurd (Nat.eq_of_beq_eq_true hb) h
  simp [upd, this]

/-- An object of the call's own: n rows of es cells. -/
structure Ob where
  es : Nat
  n : Nat
  mu : Bool
  f : Nat → Nat → AV
abbrev Heap := Nat → Option Ob

abbrev Globs := Nat → Option (Nat × (Nat → AV))

def cv : Value → AV
  | .int k n => .int k n
  | .bool b => .bool b
  | .string s => .str s
  | .slice none 0 0 => .nsl
  | .agg _ => .junk
  | v => .raw v

/-- A constant's own cells. -/
def zcells (v : Value) : List AV := v.cells.toList.map cv
def cvA : Value → AV
  | .agg cs => .agg (cs.toList.map cv)
  | v => cv v

def ev (gl : Globs) (fr : Nat → AV) : Operand → AV
  | .tmp t => fr t
  | .const v => cvA v
  | .global g => match gl g with | some (m, h) => .ipt m h | none => .junk
  | .func f => .fn (.func f) [] []

/-- The cells of a value. -/
def acells : AV → Option (List AV)
  | .agg cs => some cs
  | .junk => none
  | v => some [v]

/-- A value of one cell, surely. -/
def AV.one : AV → Bool
  | .agg _ | .tup _ | .junk => false
  | .raw (.agg _) | .raw (.tuple _) => false
  | _ => true

def splice : List AV → Nat → List AV → List AV
  | cs, _, [] => cs
  | cs, off, v :: vs => splice (cs.set off v) (off + 1) vs

def afill (ρ : Operand → AV) (place : Nat → Option (Nat × Nat)) (cells : List AV) : List (Nat × Operand) → Option (List AV)
  | [] => some cells
  | (i, x) :: rest =>
    match place i, acells (ρ x) with
    | some (off, size), some vs => bif Nat.beq vs.length size && Nat.ble (off + vs.length) cells.length then afill ρ place (splice cells off vs) rest else none
    | _, _ => none

inductive Rq where
  | no
  | yes (p : Prop)
def Rq.holds : Rq → Prop
  | .no => True
  | .yes p => p

def isAggT (P : Program) (t : TypeId) : Option Bool :=
  match P.underlying t with
  | some (.struct _) | some (.array _ _) => some true
  | some _ => some false
  | none => none

def szT (P : Program) (t : TypeId) : Option Nat := (P.info? t).map (·.size)

def intCmpB : BinOp → Int → Int → Option Bool
  | .eql, x, y => some (x == y)
  | .neq, x, y => some (x != y)
  | .lss, x, y => some (decide (x < y))
  | .leq, x, y => some (decide (x ≤ y))
  | .gtr, x, y => some (decide (x > y))
  | .geq, x, y => some (decide (x ≥ y))
  | _, _, _ => none

/-- Is the operand a constant that is not zero ¦ not negative? -/
def constInt : Operand → Option Int
  | .const (.int _ n) => some n
  | _ => none

def bitsOf (op : BinOp) (k : IntKind) (x y : Int) : Option Int :=
  let a := BitVec.ofInt k.bits x
  let b := BitVec.ofInt k.bits y
  match op with
  | .and => some (k.wrap (a &&& b).toNat)
  | .or => some (k.wrap (a ||| b).toNat)
  | .xor => some (k.wrap (a ^^^ b).toNat)
  | .andNot => some (k.wrap (a &&& ~~~b).toNat)
  | _ => none

/-- An operation on two integers: what must hold, and the value. -/
def intBin (op : BinOp) (y : Operand) (k : IntKind) (a : Int) (k' : IntKind) (b : Int) : Option (Rq × AV) :=
  match op with
  | .shl => some ((match constInt y with | some n => bif decide (0 ≤ n) then .no else .yes (0 ≤ b) | none => .yes (0 ≤ b)), .int k (k.wrap (a * 2 ^ (min b.toNat k.bits))))
  | .shr => some ((match constInt y with | some n => bif decide (0 ≤ n) then .no else .yes (0 ≤ b) | none => .yes (0 ≤ b)), .int k (a.fdiv (2 ^ (min b.toNat k.bits))))
  | _ =>
    bif decide (k = k') then
      match op with
      | .add => some (.no, .int k (k.wrap (a + b)))
      | .sub => some (.no, .int k (k.wrap (a - b)))
      | .mul => some (.no, .int k (k.wrap (a * b)))
      | .quo => some ((match constInt y with | some n => bif decide (n ≠ 0) then .no else .yes (b ≠ 0) | none => .yes (b ≠ 0)), .int k (k.wrap (a.tdiv b)))
      | .rem => some ((match constInt y with | some n => bif decide (n ≠ 0) then .no else .yes (b ≠ 0) | none => .yes (b ≠ 0)), .int k (a.tmod b))
      | .and | .or | .xor | .andNot => (bitsOf op k a b).map fun n => (.no, .int k n)
      | op => (intCmpB op a b).map fun c => (.no, .bool c)
    else none

def intOfAV : AV → Int
  | .int _ n => n
  | _ => 0

def atL (cs : List AV) (j : Nat) : AV := cs.getD j .junk

/-- A part of the cells of a struct or an array. -/
def apart? (P : Program) (t : TypeId) (cs : List AV) (off : Nat) : Option AV :=
  match isAggT P t, szT P t with
  | some true, some s => bif Nat.ble (off + s) cs.length then some (.agg ((cs.drop off).take s)) else none
  | some false, _ => cs[off]?
  | _, _ => none

/-- m cells from a place on, as a value of type t. -/
def readT (P : Program) (t : TypeId) (m : Nat) (g : Nat → AV) : Option AV :=
  match isAggT P t, szT P t with
  | some true, some s => bif Nat.ble s m then some (.agg ((List.range s).map g)) else none
  | some false, _ => bif Nat.blt 0 m then some (g 0) else none
  | _, _ => none

def boxed (nid : Nat) (cs : List AV) : AV × Option Ob := (.own nid cs.length 0 0 cs.length, some ⟨cs.length, 1, true, fun _ j => atL cs j⟩)

def asIdx : AV → Option Int
  | .int _ n => some n
  | _ => none

/-- The bounds of a slice expression over something of length n: what must hold, from where, how many. -/
def aBounds (n : Nat) (lo hi : Option AV) : Option (Rq × Nat × Nat) :=
  match lo, hi with
  | none, none => some (.no, 0, n)
  | some l, none => (asIdx l).map fun (l : Int) => (Rq.yes (0 ≤ l ∧ l ≤ n), l.toNat, n - l.toNat)
  | none, some h => (asIdx h).map fun (h : Int) => (Rq.yes (0 ≤ h ∧ h ≤ n), 0, h.toNat)
  | some l, some h => match asIdx l, asIdx h with
    | some l, some h => some (.yes (0 ≤ l ∧ l ≤ h ∧ h ≤ n), l.toNat, h.toNat - l.toNat)
    | _, _ => none

/-- What an operation that writes nothing (it may make an object) comes to. -/
def mstep (P : Program) (ρ : Operand → AV) (H : Heap) (nid : Nat) : Op → Option (Rq × AV × Option Ob)
  | .move x | .assign x => some (.no, ρ x, none)
  | .pick c a b => match ρ c, ρ a, ρ b with
    | .bool c, .bool a, .bool b => some (.no, .bool (bif c then a else b), none)
    | _, _, _ => none
  | .alloc t => match (P.info? t).bind (·.zero) with
    | some z => let (v, o) := boxed nid (zcells z); some (.no, v, o)
    | none => none
  | .box _ x => match acells (ρ x) with
    | some cs => let (v, o) := boxed nid cs; some (.no, v, o)
    | none => none
  | .build t parts => match (P.info? t).bind (·.zero), P.underlying t with
    | some z, some (.struct fields) =>
      bif fields.all (fun f => (P.info? f.type).isSome) then
        (afill ρ (fun i => (fields[i]?).map fun f => (f.offset, P.cellsOf f.type)) (zcells z) parts.toList).map fun cs => (.no, .agg cs, none)
      else none
    | some z, some (.array _ e) => match szT P e with
      | some s => (afill ρ (fun i => some (i * s, s)) (zcells z) parts.toList).map fun cs => (.no, .agg cs, none)
      | none => none
    | _, _ => none
  | .buildSlice t len parts => match P.underlying t with
    | some (.slice e) => match szT P e, (P.info? e).bind (·.zero) with
      | some s, some z =>
        bif Nat.ble (len * s) 16777216 && Nat.blt 0 s && Nat.beq (zcells z).length s then
          (afill ρ (fun i => some (i * s, s)) ((List.range (len * s)).map fun i => atL (zcells z) (i % s)) parts.toList).map fun cs =>
            (.no, .osl nid s 0 len, some ⟨s, len, true, fun i j => atL cs (i * s + j)⟩)
        else none
      | _, _ => none
    | _ => none
  | .load t a => match ρ a with
    | .own id es i j m => match H id with
      | some o => bif Nat.beq o.es es then (readT P t m (fun k => o.f i (j + k))).map fun v => (.no, v, none) else none
      | none => none
    | .ipt m g => (readT P t m g).map fun v => (.no, v, none)
    | _ => none
  | .nilCheck x => match ρ x with
    | .own id es i j m => match H id with
      | some _ => some (.no, .own id es i j m, none)
      | none => none
    | .ipt m g => some (.no, .ipt m g, none)
    | .fn (.func f) a b => some (.no, .fn (.func f) a b, none)
    | _ => none
  | .binOp op t x y _ => match ρ x, ρ y with
    | .int k a, .int k' b => (intBin op y k a k' b).map fun (q, v) => (q, v, none)
    | .bool a, .bool b => match P.underlying t, op with
      | some .bool, .eql => some (.no, .bool (a == b), none)
      | some .bool, .neq => some (.no, .bool (!(a == b)), none)
      | _, _ => none
    | .str a, .str b => match op with
      | .add => some (.yes (a.size + b.size ≤ maxLen), .str (a ++ b), none)
      | .eql => some (.no, .bool (a.toList == b.toList), none)
      | .neq => some (.no, .bool (!(a.toList == b.toList)), none)
      | .lss => some (.no, .bool (Op.bytesLess a.toList b.toList), none)
      | _ => none
    | _, _ => none
  | .unOp op _ x => match op, ρ x with
    | .not, .bool b => some (.no, .bool (!b), none)
    | .neg, .int k n => some (.no, .int k (k.wrap (0 - n)), none)
    | .xor, .int k n => (bitsOf .xor k (if k.signed then -1 else k.max) n).map fun n => (.no, .int k n, none)
    | _, _ => none
  | .convert s d x => match P.underlying s, P.underlying d, ρ x with
    | some _, some (.int k), .int _ n => some (.no, .int k (k.wrap n), none)
    | some _, some .string, .str s => some (.no, .str s, none)
    | _, _, _ => none
  | .makeInterface t x => match P.underlying t with
    | some (.interface _) => none
    | some _ => some (.no, .ifc t (ρ x), none)
    | none => none
  | .makeFunc f fs cs => some (.no, .fn f (fs.toList.map ρ) (cs.toList.map ρ), none)
  | .fieldAddr s x k => match P.underlying s with
    | some (.struct fields) => match fields[k]? with
      | some f => match szT P f.type, ρ x with
        | some z, .own id es i j m => match H id with
          | some _ => bif Nat.blt 0 z && Nat.ble (f.offset + z) m then some (.no, .own id es i (j + f.offset) z, none) else none
          | none => none
        | some z, .ipt m g => bif Nat.blt 0 z && Nat.ble (f.offset + z) m then some (.no, .ipt z (fun k => g (f.offset + k)), none) else none
        | _, _ => none
      | none => none
    | _ => none
  | .field t x k => match P.underlying t, ρ x with
    | some (.struct fields), .agg cs => match fields[k]? with
      | some f => (apart? P f.type cs f.offset).map fun v => (.no, v, none)
      | none => none
    | _, _ => none
  | .indexAddr t x ix => match P.underlying t, asIdx (ρ ix) with
    | some (.slice e), some k => match szT P e, ρ x with
      | some z, .isl es n f => bif Nat.beq z es && Nat.blt 0 z then some (.yes (0 ≤ k ∧ k < n), .ipt es (f k.toNat), none) else none
      | some z, .osl id es i len => match H id with
        | some _ => bif Nat.beq z es then some (.yes (0 ≤ k ∧ k < len), .own id es (k.toNat + i) 0 es, none) else none
        | none => none
      | _, _ => none
    | some (.array len e), some k => match szT P e, ρ x with
      | some z, .own id es i j m => match H id with
        | some _ => bif Nat.ble (len * z) m && Nat.blt 0 z then some (.yes (0 ≤ k ∧ k < len), .own id es i (j + k.toNat * z) z, none) else none
        | none => none
      | some z, .ipt m g => bif Nat.ble (len * z) m && Nat.blt 0 z then some (.yes (0 ≤ k ∧ k < len), .ipt z (fun q => g (k.toNat * z + q)), none) else none
      | _, _ => none
    | _, _ => none
  | .index t x ix => match P.underlying t, ρ x, asIdx (ρ ix) with
    | some .string, .str s, some k => some (.yes (0 ≤ k ∧ k < s.size), .int .u8 (s.data.toList.getD k.toNat 0).toNat, none)
    | some (.array len e), .agg cs, some k => match P.underlying e, szT P e with
      | some (.int kk), some 1 => bif Nat.beq cs.length len && cs.all (fun c => match c with | .int kc _ => decide (kc = kk) | _ => false) then
          some (.yes (0 ≤ k ∧ k < len), .int kk (intOfAV (atL cs k.toNat)), none) else none
      | _, _ => none
    | _, _, _ => none
  | .extract x k => match ρ x with
    | .tup cs => (cs[k]?).map fun v => (.no, v, none)
    | _ => none
  | .slice t x lo hi none => match P.underlying t, ρ x with
    | some (.slice e), .isl es n f => match szT P e, aBounds n (lo.map ρ) (hi.map ρ) with
      | some z, some (q, l, m) => bif Nat.beq z es && Nat.blt 0 z then some (q, .isl es m (fun i j => f (i + l) j), none) else none
      | _, _ => none
    | some (.slice e), .osl id es i len => match H id with
      | some _ => match szT P e, aBounds len (lo.map ρ) (hi.map ρ) with
        | some z, some (q, l, m) => bif Nat.beq z es && Nat.blt 0 z then some (q, .osl id es (l + i) m, none) else none
        | _, _ => none
      | none => none
    | some .string, .str s => match aBounds s.size (lo.map ρ) (hi.map ρ) with
      | some (q, l, m) => some (q, .str (s.extract l (l + m)), none)
      | none => none
    | _, _ => none
  | .call { callee := .builtin .len, args := args, argTypes := ts } => match args[0]?, ts[0]? with
    | some x, some t => match P.underlying t, ρ x with
      | some (.slice _), .isl _ n _ => some (.no, .int .i64 n, none)
      | some (.slice _), .osl id _ _ n => match H id with
        | some _ => some (.no, .int .i64 n, none)
        | none => none
      | some (.slice _), .nsl => some (.no, .int .i64 0, none)
      | some .string, .str s => some (.no, .int .i64 s.size, none)
      | some (.array n _), _ => some (.no, .int .i64 n, none)
      | _, _ => none
    | _, _ => none
  | _ => none

end Go.Am
