/-
  The engine, part 2: what an operation makes of abstract values ('mstep'), the state inside a region ('RSt'), and what it means ('RSim').
-/
import Derived.Test.YtehcijjdibdljaaEnCore
namespace Go.Am
open Go.RowKit

def upd {α : Type} (f : Nat → α) (n : Nat) (v : α) : Nat → α := fun m => bif Nat.beq m n then v else f m

theorem upd_same {α : Type} (f : Nat → α) (n : Nat) (v : α) : upd f n v n = v := by simp [upd]
theorem upd_ne {α : Type} (f : Nat → α) {n m : Nat} (v : α) (h : m ≠ n) : upd f n v m = f m := by
  have : Nat.beq m n = false := by
    cases hb : Nat.beq m n with
    | false => rfl
    | true => exact absurd (Nat.eq_of_beq_eq_true hb) h
  simp [upd, this]

def atL (cs : List AV) (j : Nat) : AV := cs.getD j .junk

/-- The first if c, else the second; of two integers or Bools: one that is chosen inside. -/
def mixA (c : Bool) (a b : AV) : AV :=
  match a, b with
  | .int k x, .int k' y => bif decide (k = k') then .int k (bif c then x else y) else bif c then .int k x else .int k' y
  | .bool x, .bool y => .bool (bif c then x else y)
  | a, b => bif c then a else b

theorem mixA_tt (a b : AV) : mixA true a b = a := by
  cases a <;> cases b <;> first | rfl | (simp [mixA])
theorem mixA_ff (a b : AV) : mixA false a b = b := by
  cases a <;> cases b <;> first | rfl | (simp only [mixA]; rename_i k x k' y; by_cases h : k = k' <;> simp [h])

/-- The rows of an object: a function; a list of lists; a list for each row. -/
inductive Rep where
  | fn (f : Nat → Nat → AV)
  | lst (l : List (List AV))
  | row (c : Nat → List AV)
  | cat (n : Nat) (f g : Rep)
  | put (k : Nat) (x : List AV) (f : Rep)

def Rep.at : Rep → Nat → Nat → AV
  | .fn f, i, j => f i j
  | .lst l, i, j => atL (l.getD i []) j
  | .row c, i, j => atL (c i) j
  | .cat n f g, i, j => mixA (Nat.blt i n) (f.at i j) (g.at (i - n) j)
  | .put k x f, i, j => mixA (Nat.beq i k) (atL x j) (f.at i j)

instance : CoeFun Rep (fun _ => Nat → Nat → AV) := ⟨Rep.at⟩

/-- Rows anew: g where the columns are numbers, g' where they are not. -/
def Rep.upd (r : Rep) (es : Nat) (g g' : Nat → Nat → AV) : Rep := match r with
  | .fn _ => .fn g'
  | .lst l => .lst ((List.range l.length).map fun i => (List.range es).map (g i))
  | .row _ => .row (fun i => (List.range es).map (g i))
  | .cat .. => .row (fun i => (List.range es).map (g i))
  | .put .. => .row (fun i => (List.range es).map (g i))

def Rep.map (g : AV → AV) : Rep → Rep
  | .fn f => .fn (fun i j => g (f i j))
  | .lst l => .lst (l.map fun x => x.map g)
  | .row c => .row (fun i => (c i).map g)
  | .cat n f h => .cat n (f.map g) (h.map g)
  | .put k x f => .put k (x.map g) (f.map g)

def Rep.shift (k : Nat) : Rep → Rep
  | .fn f => .fn (fun i j => f (i + k) j)
  | .lst l => .lst (l.drop k)
  | .row c => .row (fun i => c (i + k))
  | .cat n f g => bif Nat.beq k 0 then .cat n f g else .fn (fun i j => Rep.at (.cat n f g) (i + k) j)
  | .put q x f => bif Nat.beq k 0 then .put q x f else .fn (fun i j => Rep.at (.put q x f) (i + k) j)

/-- Rows that are stood for one by one. -/
def Rep.rows : Rep → Bool
  | .row _ => true
  | .cat .. => true
  | .put .. => true
  | _ => false
/-- A store of z cells into row ii, from cell j on. -/
def Rep.stor (r : Rep) (es ii j z : Nat) (cs : List AV) (g g' : Nat → Nat → AV) : Rep := bif Rep.rows r && (Nat.beq j 0 && Nat.beq z es) then .put ii cs r else r.upd es g g'

theorem atL_map {β β' : Book} {w w' : World} {g : AV → AV} (h : ∀ a v, Rel β w a v → Rel β' w' (g a) v) {l : List AV} {j : Nat} {v : Value} (hr : Rel β w (atL l j) v) : Rel β' w' (atL (l.map g) j) v := by
  unfold atL at *
  rw [List.getD_eq_getElem?_getD] at *
  rw [List.getElem?_map]
  cases hj : l[j]? with
  | none => exact .junk
  | some x => rw [hj] at hr; exact h x v hr

theorem atL_range {β : Book} {w : World} {g : Nat → AV} {es j : Nat} {v : Value} (hr : Rel β w (g j) v) : Rel β w (atL ((List.range es).map g) j) v := by
  unfold atL
  rw [List.getD_eq_getElem?_getD, List.getElem?_map]
  by_cases hj : j < es
  · rw [List.getElem?_range hj]; exact hr
  · rw [List.getElem?_eq_none (by simp; omega)]; exact .junk

theorem Rep.map_rel {β β' : Book} {w w' : World} {g : AV → AV} (h : ∀ a v, Rel β w a v → Rel β' w' (g a) v) {r : Rep} : ∀ {i j : Nat} {v : Value}, Rel β w (r i j) v → Rel β' w' ((r.map g) i j) v := by
  induction r with
  | fn f => intro i j v hr; exact h _ _ hr
  | row c => intro i j v hr; exact atL_map h hr
  | lst l =>
    intro i j v hr
    have hr : Rel β w (atL (l.getD i []) j) v := hr
    show Rel β' w' (atL ((l.map fun x => x.map g).getD i []) j) v
    rw [List.getD_eq_getElem?_getD] at *
    rw [List.getElem?_map]
    cases hi : l[i]? with
    | none => exact .junk
    | some x => rw [hi] at hr; exact atL_map h hr
  | cat n f k ihf ihk =>
    intro i j v hr
    have hr : Rel β w (mixA (Nat.blt i n) (f.at i j) (k.at (i - n) j)) v := hr
    show Rel β' w' (mixA (Nat.blt i n) ((f.map g).at i j) ((k.map g).at (i - n) j)) v
    cases hb : Nat.blt i n with
    | true => rw [hb, mixA_tt] at hr; rw [mixA_tt]; exact ihf hr
    | false => rw [hb, mixA_ff] at hr; rw [mixA_ff]; exact ihk hr
  | put k x f ihf =>
    intro i j v hr
    have hr : Rel β w (mixA (Nat.beq i k) (atL x j) (f.at i j)) v := hr
    show Rel β' w' (mixA (Nat.beq i k) (atL (x.map g) j) ((f.map g).at i j)) v
    cases hb : Nat.beq i k with
    | true => rw [hb, mixA_tt] at hr; rw [mixA_tt]; exact atL_map h hr
    | false => rw [hb, mixA_ff] at hr; rw [mixA_ff]; exact ihf hr

theorem Rep.upd_rel {β : Book} {w : World} {r : Rep} {es : Nat} {g g' : Nat → Nat → AV} {i j : Nat} {v : Value} (hr : Rel β w (g i j) v) (hr' : Rel β w (g' i j) v) : Rel β w ((r.upd es g g') i j) v := by
  cases r with
  | fn f => exact hr'
  | row c => exact atL_range hr
  | lst l =>
    show Rel β w (atL (((List.range l.length).map fun i => (List.range es).map (g i)).getD i []) j) v
    rw [List.getD_eq_getElem?_getD, List.getElem?_map]
    by_cases hi : i < l.length
    · rw [List.getElem?_range hi]; exact atL_range hr
    · rw [List.getElem?_eq_none (by simp; omega)]; exact .junk
  | cat n f k => exact atL_range hr
  | put k x f => exact atL_range hr

theorem Rep.stor_rel {β : Book} {w : World} {r : Rep} {es ii j z : Nat} {cs : List AV} {g g' : Nat → Nat → AV} {p q : Nat} {v : Value} (h1 : j = 0 → z = es → Rel β w (mixA (Nat.beq p ii) (atL cs q) (r p q)) v) (h2 : Rel β w ((r.upd es g g') p q) v) :
    Rel β w ((r.stor es ii j z cs g g') p q) v := by
  unfold Rep.stor
  cases hc : (Rep.rows r && (Nat.beq j 0 && Nat.beq z es)) with
  | false => exact h2
  | true =>
    simp only [Bool.and_eq_true] at hc
    exact h1 (Nat.eq_of_beq_eq_true hc.2.1) (Nat.eq_of_beq_eq_true hc.2.2)

theorem Rep.shift_at (k : Nat) (r : Rep) (i j : Nat) : (r.shift k) i j = r (i + k) j := by
  cases r with
  | fn f => rfl
  | row c => rfl
  | lst l =>
    show atL ((l.drop k).getD i []) j = atL (l.getD (i + k) []) j
    rw [List.getD_eq_getElem?_getD, List.getD_eq_getElem?_getD, List.getElem?_drop, Nat.add_comm]
  | cat n f g =>
    show (bif Nat.beq k 0 then Rep.cat n f g else .fn (fun i j => Rep.at (.cat n f g) (i + k) j)).at i j = _
    cases hb : Nat.beq k 0 with
    | true => rw [Nat.eq_of_beq_eq_true hb]; rfl
    | false => rfl
  | put q x f =>
    show (bif Nat.beq k 0 then Rep.put q x f else .fn (fun i j => Rep.at (.put q x f) (i + k) j)).at i j = _
    cases hb : Nat.beq k 0 with
    | true => rw [Nat.eq_of_beq_eq_true hb]; rfl
    | false => rfl

/-- An object of the call's own: n rows of es cells. -/
structure Ob where
  es : Nat
  n : Nat
  mu : Bool
  f : Rep
abbrev Heap := Nat → Option Ob

abbrev Globs := Nat → Option (Nat × (Nat → AV))

def cv : Value → AV
  | .int k n => .int k n
  | .bool b => .bool b
  | .string s => .str s
  | .slice none 0 0 => .nsl
  | .agg _ => .junk
  | v => .raw v

/-- A constant's own cells. -/
def zcells (v : Value) : List AV := v.cells.toList.map cv
def cvA : Value → AV
  | .agg cs => .agg (cs.toList.map cv)
  | v => cv v

def ev (gl : Globs) (fr : Nat → AV) : Operand → AV
  | .tmp t => fr t
  | .const v => cvA v
  | .global g => match gl g with | some (m, h) => .ipt m h | none => .junk
  | .func f => .fn (.func f) [] []

/-- The cells of a value. -/
def acells : AV → Option (List AV)
  | .agg cs => some cs
  | .junk => none
  | v => some [v]

/-- A value of one cell, surely. -/
def AV.one : AV → Bool
  | .agg _ | .tup _ | .junk => false
  | .raw (.agg _) | .raw (.tuple _) => false
  | _ => true

def splice : List AV → Nat → List AV → List AV
  | cs, _, [] => cs
  | cs, off, v :: vs => splice (cs.set off v) (off + 1) vs

def afill (ρ : Operand → AV) (place : Nat → Option (Nat × Nat)) (cells : List AV) : List (Nat × Operand) → Option (List AV)
  | [] => some cells
  | (i, x) :: rest =>
    match place i, acells (ρ x) with
    | some (off, size), some vs => bif Nat.beq vs.length size && Nat.ble (off + vs.length) cells.length then afill ρ place (splice cells off vs) rest else none
    | _, _ => none

inductive Rq where
  | no
  | yes (p : Prop)
def Rq.holds : Rq → Prop
  | .no => True
  | .yes p => p

def isAggT (P : Program) (t : TypeId) : Option Bool :=
  match P.underlying t with
  | some (.struct _) | some (.array _ _) => some true
  | some _ => some false
  | none => none

def szT (P : Program) (t : TypeId) : Option Nat := (P.info? t).map (·.size)

def intCmpB : BinOp → Int → Int → Option Bool
  | .eql, x, y => some (x == y)
  | .neq, x, y => some (x != y)
  | .lss, x, y => some (decide (x < y))
  | .leq, x, y => some (decide (x ≤ y))
  | .gtr, x, y => some (decide (x > y))
  | .geq, x, y => some (decide (x ≥ y))
  | _, _, _ => none

/-- Is the operand a constant that is not zero ¦ not negative? -/
def constInt : Operand → Option Int
  | .const (.int _ n) => some n
  | _ => none

def bitsOf (op : BinOp) (k : IntKind) (x y : Int) : Option Int :=
  let a := BitVec.ofInt k.bits x
  let b := BitVec.ofInt k.bits y
  match op with
  | .and => some (k.wrap (a &&& b).toNat)
  | .or => some (k.wrap (a ||| b).toNat)
  | .xor => some (k.wrap (a ^^^ b).toNat)
  | .andNot => some (k.wrap (a &&& ~~~b).toNat)
  | _ => none

/-- An operation on two integers: what must hold, and the value. -/
def intBin (op : BinOp) (y : Operand) (k : IntKind) (a : Int) (k' : IntKind) (b : Int) : Option (Rq × AV) :=
  match op with
  | .shl => some ((match constInt y with | some n => bif decide (0 ≤ n) then .no else .yes (0 ≤ b) | none => .yes (0 ≤ b)), .int k (k.wrap (a * 2 ^ (min b.toNat k.bits))))
  | .shr => some ((match constInt y with | some n => bif decide (0 ≤ n) then .no else .yes (0 ≤ b) | none => .yes (0 ≤ b)), .int k (a.fdiv (2 ^ (min b.toNat k.bits))))
  | _ =>
    bif decide (k = k') then
      match op with
      | .add => some (.no, .int k (k.wrap (a + b)))
      | .sub => some (.no, .int k (k.wrap (a - b)))
      | .mul => some (.no, .int k (k.wrap (a * b)))
      | .quo => some ((match constInt y with | some n => bif decide (n ≠ 0) then .no else .yes (b ≠ 0) | none => .yes (b ≠ 0)), .int k (k.wrap (a.tdiv b)))
      | .rem => some ((match constInt y with | some n => bif decide (n ≠ 0) then .no else .yes (b ≠ 0) | none => .yes (b ≠ 0)), .int k (a.tmod b))
      | .and | .or | .xor | .andNot => (bitsOf op k a b).map fun n => (.no, .int k n)
      | op => (intCmpB op a b).map fun c => (.no, .bool c)
    else none

def intOfAV : AV → Int
  | .int _ n => n
  | _ => 0

def isIntK (kk : IntKind) : AV → Bool
  | .int k _ => decide (k = kk)
  | _ => false

/-- The kind of some cells, if they are integers of one kind. -/
def kindAll (g : Nat → AV) (len : Nat) : Option IntKind :=
  match g 0 with
  | .int kk _ => bif Nat.blt 0 len && (List.range len).all (fun q => isIntK kk (g q)) then some kk else none
  | _ => none

/-- A cell; where all are integers of one kind: surely one. -/
def atLI (cs : List AV) (q : Nat) : AV := match kindAll (atL cs) cs.length with
  | some kk => .int kk (intOfAV (atL cs q))
  | none => atL cs q

/-- A part of the cells of a struct or an array. -/
def apart? (P : Program) (t : TypeId) (cs : List AV) (off : Nat) : Option AV :=
  match isAggT P t, szT P t with
  | some true, some s => bif Nat.ble (off + s) cs.length then some (.agg ((cs.drop off).take s)) else none
  | some false, _ => cs[off]?
  | _, _ => none

def eqFieldsA (P : Program) (eq : TypeId → AV → AV → Option Bool) (xs ys : List AV) : List Field → Option Bool
  | [] => some true
  | f :: fs => bif f.name == "_" then none else match apart? P f.type xs f.offset, apart? P f.type ys f.offset with
    | some a, some b => match eq f.type a b, eqFieldsA P eq xs ys fs with
      | some r, some q => some (r && q)
      | _, _ => none
    | _, _ => none

def eqElemsA (P : Program) (eq : AV → AV → Option Bool) (e : TypeId) (n : Nat) (xs ys : List AV) : Nat → Nat → Option Bool
  | 0, _ => some true
  | k + 1, i => match apart? P e xs (i * n), apart? P e ys (i * n) with
    | some a, some b => match eq a b, eqElemsA P eq e n xs ys k (i + 1) with
      | some r, some q => some (r && q)
      | _, _ => none
    | _, _ => none

/-- == on values of a type without references. -/
def eqAV (P : Program) : Nat → TypeId → AV → AV → Option Bool
  | 0, _, _, _ => none
  | d + 1, t, x, y => match P.underlying t, x, y with
    | some .bool, .bool a, .bool b => some (a == b)
    | some (.int _), .int k a, .int k' b => bif decide (k = k') then some (a == b) else none
    | some .string, .str a, .str b => some (a.toList == b.toList)
    | some (.struct fs), .agg xs, .agg ys => bif P.stoodInHeld t then none else eqFieldsA P (eqAV P d) xs ys fs.toList
    | some (.array len e), .agg xs, .agg ys => match szT P e with
      | some n => eqElemsA P (eqAV P d e) e n xs ys len 0
      | none => none
    | _, _, _ => none

def eqRes (op : BinOp) (b : Bool) : Option AV :=
  match op with
  | .eql => some (.bool b)
  | .neq => some (.bool (!b))
  | _ => none

/-- m cells from a place on, as a value of type t. -/
def readT (P : Program) (t : TypeId) (m : Nat) (g : Nat → AV) : Option AV :=
  match isAggT P t, szT P t with
  | some true, some s => bif Nat.ble s m then some (.agg ((List.range s).map g)) else none
  | some false, _ => bif Nat.blt 0 m then some (g 0) else none
  | _, _ => none

def boxed (nid : Nat) (cs : List AV) : AV × Option Ob := (.own nid cs.length 0 0 cs.length, some ⟨cs.length, 1, true, .lst [cs]⟩)

def asIdx : AV → Option Int
  | .int _ n => some n
  | _ => none

/-- The bounds of a slice expression over something of length n: what must hold, from where, how many. -/
def aBounds (n : Nat) (lo hi : Option AV) : Option (Rq × Nat × Nat) :=
  match lo, hi with
  | none, none => some (.no, 0, n)
  | some l, none => (asIdx l).map fun (l : Int) => (Rq.yes (0 ≤ l ∧ l ≤ n), l.toNat, n - l.toNat)
  | none, some h => (asIdx h).map fun (h : Int) => (Rq.yes (0 ≤ h ∧ h ≤ n), 0, h.toNat)
  | some l, some h => match asIdx l, asIdx h with
    | some l, some h => some (.yes (0 ≤ l ∧ l ≤ h ∧ h ≤ n), l.toNat, h.toNat - l.toNat)
    | _, _ => none

/-- What an operation that writes nothing (it may make an object) comes to. -/
def mstep (P : Program) (ρ : Operand → AV) (H : Heap) (nid : Nat) : Op → Option (Rq × AV × Option Ob)
  | .move x | .assign x => some (.no, ρ x, none)
  | .pick c a b => match ρ c, ρ a, ρ b with
    | .bool c, .bool a, .bool b => some (.no, .bool (bif c then a else b), none)
    | _, _, _ => none
  | .alloc t => match (P.info? t).bind (·.zero) with
    | some z => bif (zcells z).all AV.one then some (.no, (boxed nid (zcells z)).1, (boxed nid (zcells z)).2) else none
    | none => none
  | .box _ x => match acells (ρ x) with
    | some cs => bif cs.all AV.one then some (.no, (boxed nid cs).1, (boxed nid cs).2) else none
    | none => none
  | .build t parts => match (P.info? t).bind (·.zero), P.underlying t with
    | some z, some (.struct fields) =>
      bif fields.all (fun f => (P.info? f.type).isSome) then
        (afill ρ (fun i => (fields[i]?).map fun f => (f.offset, P.cellsOf f.type)) (zcells z) parts.toList).map fun cs => (.no, .agg cs, none)
      else none
    | some z, some (.array _ e) => match szT P e with
      | some s => (afill ρ (fun i => some (i * s, s)) (zcells z) parts.toList).map fun cs => (.no, .agg cs, none)
      | none => none
    | _, _ => none
  | .buildSlice t len parts => match P.underlying t with
    | some (.slice e) => match szT P e, (P.info? e).bind (·.zero) with
      | some s, some z =>
        bif Nat.ble (len * s) 16777216 && Nat.blt 0 s && Nat.beq (zcells z).length s then
          match afill ρ (fun i => some (i * s, s)) ((List.range (len * s)).map fun i => atL (zcells z) (i % s)) parts.toList with
          | some cs => bif cs.all AV.one then some (.no, .osl nid s 0 len, some ⟨s, len, true, .lst ((List.range len).map fun i => (cs.drop (i * s)).take s)⟩) else none
          | none => none
        else none
      | _, _ => none
    | _ => none
  | .load t a => match ρ a with
    | .own id es i j m => match H id with
      | some o => bif Nat.beq o.es es then (readT P t m (fun k => o.f i (j + k))).map fun v => (.no, v, none) else none
      | none => none
    | .ipt m g => (readT P t m g).map fun v => (.no, v, none)
    | .oel id es i base len k => match H id, isAggT P t with
      | some o, some false => bif Nat.beq o.es es then match kindAll (fun q => o.f i (base + q)) len with
          | some kk => some (.no, .int kk (intOfAV (o.f i (base + k))), none)
          | none => none
        else none
      | _, _ => none
    | _ => none
  | .nilCheck x => match ρ x with
    | .own id es i j m => match H id with
      | some _ => some (.no, .own id es i j m, none)
      | none => none
    | .ipt m g => some (.no, .ipt m g, none)
    | .fn (.func f) a b => some (.no, .fn (.func f) a b, none)
    | _ => none
  | .binOp op t x y _ => match ρ x, ρ y with
    | .int k a, .int k' b => (intBin op y k a k' b).map fun (q, v) => (q, v, none)
    | .bool a, .bool b => match P.underlying t, op with
      | some .bool, .eql => some (.no, .bool (a == b), none)
      | some .bool, .neq => some (.no, .bool (!(a == b)), none)
      | _, _ => none
    | .str a, .str b => match op with
      | .add => some (.yes (a.size + b.size ≤ maxLen), .str (a ++ b), none)
      | .eql => some (.no, .bool (a.toList == b.toList), none)
      | .neq => some (.no, .bool (!(a.toList == b.toList)), none)
      | .lss => some (.no, .bool (Op.bytesLess a.toList b.toList), none)
      | _ => none
    | .nsl, .nsl => match P.underlying t with
      | some (.slice _) => (eqRes op true).map fun v => (.no, v, none)
      | _ => none
    | .nn _, .nsl => match P.underlying t with
      | some (.slice _) => (eqRes op false).map fun v => (.no, v, none)
      | _ => none
    | .agg xs, .agg ys => bif P.eqGuardType P.depth t then none else match eqAV P 9 t (.agg xs) (.agg ys) with
      | some b => (eqRes op b).map fun v => (.no, v, none)
      | none => none
    | _, _ => none
  | .unOp op _ x => match op, ρ x with
    | .not, .bool b => some (.no, .bool (!b), none)
    | .neg, .int k n => some (.no, .int k (k.wrap (0 - n)), none)
    | .xor, .int k n => (bitsOf .xor k (if k.signed then -1 else k.max) n).map fun n => (.no, .int k n, none)
    | _, _ => none
  | .convert s d x => match P.underlying s, P.underlying d, ρ x with
    | some _, some (.int k), .int _ n => some (.no, .int k (k.wrap n), none)
    | some _, some .string, .str s => some (.no, .str s, none)
    | _, _, _ => none
  | .makeInterface t x => match P.underlying t with
    | some (.interface _) => none
    | some _ => some (.no, .ifc t (ρ x), none)
    | none => none
  | .makeFunc f fs cs => some (.no, .fn f (fs.toList.map ρ) (cs.toList.map ρ), none)
  | .fieldAddr s x k => match P.underlying s with
    | some (.struct fields) => match fields[k]? with
      | some f => match szT P f.type, ρ x with
        | some z, .own id es i j m => match H id with
          | some _ => bif Nat.blt 0 z && Nat.ble (f.offset + z) m then some (.no, .own id es i (j + f.offset) z, none) else none
          | none => none
        | some z, .ipt m g => bif Nat.blt 0 z && Nat.ble (f.offset + z) m then some (.no, .ipt z (fun k => g (f.offset + k)), none) else none
        | _, _ => none
      | none => none
    | _ => none
  | .field t x k => match P.underlying t, ρ x with
    | some (.struct fields), .agg cs => match fields[k]? with
      | some f => (apart? P f.type cs f.offset).map fun v => (.no, v, none)
      | none => none
    | _, _ => none
  | .indexAddr t x ix => match P.underlying t, asIdx (ρ ix) with
    | some (.slice e), some k => match szT P e, ρ x with
      | some z, .isl es n f => bif Nat.beq z es && Nat.blt 0 z then some (.yes (0 ≤ k ∧ k < n), .ipt es (f k.toNat), none) else none
      | some z, .osl id es i len => match H id with
        | some _ => bif Nat.beq z es then some (.yes (0 ≤ k ∧ k < len), .own id es (k.toNat + i) 0 es, none) else none
        | none => none
      | _, _ => none
    | some (.array len e), some k => match szT P e, ρ x with
      | some z, .own id es i j m => match H id with
        | some _ => bif Nat.ble (len * z) m && Nat.blt 0 z then
            match constInt ix, z with
            | none, 1 => some (.yes (0 ≤ k ∧ k < len), .oel id es i j len k.toNat, none)
            | _, _ => some (.yes (0 ≤ k ∧ k < len), .own id es i (j + k.toNat * z) z, none)
          else none
        | none => none
      | some z, .ipt m g => bif Nat.ble (len * z) m && Nat.blt 0 z then
          match constInt ix, z with
          | none, 1 => match kindAll g len with
            | some kk => some (.yes (0 ≤ k ∧ k < len), .ipt 1 (fun _ => .int kk (intOfAV (g k.toNat))), none)
            | none => none
          | _, _ => some (.yes (0 ≤ k ∧ k < len), .ipt z (fun q => g (k.toNat * z + q)), none)
        else none
      | _, _ => none
    | _, _ => none
  | .index t x ix => match P.underlying t, ρ x, asIdx (ρ ix) with
    | some .string, .str s, some k => some (.yes (0 ≤ k ∧ k < s.size), .int .u8 (s.data.toList.getD k.toNat 0).toNat, none)
    | some (.array len e), .agg cs, some k => match P.underlying e, szT P e with
      | some (.int kk), some 1 => bif Nat.beq cs.length len && cs.all (fun c => match c with | .int kc _ => decide (kc = kk) | _ => false) then
          some (.yes (0 ≤ k ∧ k < len), .int kk (intOfAV (atL cs k.toNat)), none) else none
      | _, _ => none
    | _, _, _ => none
  | .extract x k => match ρ x with
    | .tup cs => (cs[k]?).map fun v => (.no, v, none)
    | _ => none
  | .slice t x lo hi none => match P.underlying t, ρ x with
    | some (.slice e), .isl es n f => match szT P e, aBounds n (lo.map ρ) (hi.map ρ) with
      | some z, some (q, l, m) => bif Nat.beq z es && Nat.blt 0 z then some (q, .isl es m (fun i j => f (i + l) j), none) else none
      | _, _ => none
    | some (.slice e), .osl id es i len => match H id with
      | some _ => match szT P e, aBounds len (lo.map ρ) (hi.map ρ) with
        | some z, some (q, l, m) => bif Nat.beq z es && Nat.blt 0 z then some (q, .osl id es (l + i) m, none) else none
        | _, _ => none
      | none => none
    | some .string, .str s => match aBounds s.size (lo.map ρ) (hi.map ρ) with
      | some (q, l, m) => some (q, .str (s.extract l (l + m)), none)
      | none => none
    | _, _ => none
  | .call { callee := .builtin .len, args := args, argTypes := ts } => match args[0]?, ts[0]? with
    | some x, some t => match P.underlying t, ρ x with
      | some (.slice _), .isl _ n _ => some (.no, .int .i64 n, none)
      | some (.slice _), .osl id _ _ n => match H id with
        | some _ => some (.no, .int .i64 n, none)
        | none => none
      | some (.slice _), .nsl => some (.no, .int .i64 0, none)
      | some .string, .str s => some (.no, .int .i64 s.size, none)
      | some (.array n _), _ => some (.no, .int .i64 n, none)
      | _, _ => none
    | _, _ => none
  | _ => none

end Go.Am
