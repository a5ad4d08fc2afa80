/-
  The engine, part 16: how a walk is gone through, node by node; each fact on a node by the kernel.
-/
import Derived.Test.YtehcijjdibdljaaAmWalk
import Derived.KernelRfl
namespace Go.Am

def Tree.kind : Tree → Nat
  | .bad _ => 0
  | .fin _ => 1
  | .br .. => 2
  | .req .. => 3
  | .scall .. => 4
  | .dcall .. => 5
  | .out .. => 6
def Tree.cnd : Tree → Bool
  | .br b _ _ => b
  | _ => false
def Tree.thn : Tree → Tree
  | .br _ t _ => t
  | t => t
def Tree.els : Tree → Tree
  | .br _ _ t => t
  | t => t
def Tree.prp : Tree → Prop
  | .req p _ => p
  | .fin p => p
  | _ => False
def Tree.nxt : Tree → Tree
  | .req _ t => t
  | t => t
def Tree.fid : Tree → FuncId
  | .scall _ f _ _ => f
  | .dcall _ f _ _ => f
  | _ => 0
def Tree.arg : Tree → List AV
  | .scall _ _ a _ => a
  | .dcall _ _ a _ => a
  | _ => []
def Tree.gd : Tree → Bool
  | .scall g _ _ _ => g
  | .dcall g _ _ _ => g
  | _ => false
def Tree.go : Tree → AV → Tree
  | .scall _ _ _ k, r => k r
  | .dcall _ _ _ k, r => k r
  | t, _ => t
def Tree.res : Tree → Option AV
  | .out v _ => v
  | _ => none
def Tree.want : Tree → AV
  | .out _ r => r
  | _ => .junk

/-- What is asked of a node. -/
def Goal (P : Program) (gl : Globs) (T : Tree) : Prop := T.wp P gl

/-- The walk of a function's body. -/
def walk (P : Program) (gl : Globs) (fn : Func) (args : List AV) (r : AV) : Tree := match fn.body with
  | some code => run ⟨P, gl, fn.ntmps⟩ code (Back P fn r) (entry args)
  | none => .bad "no body"

section
variable {P : Program} {gl : Globs} {T : Tree}

theorem pure_walk {f : FuncId} {fn : Func} {args : List AV} {r : AV} (hf : P.funcs[f]? = some fn) (hname : (fn.name == "runtime.NumGoroutine") = false)
    (hm : P.follows .mixedOrders = true) (hn : Nat.ble args.length fn.ntmps = true) (hwp : Goal P gl (walk P gl fn args r)) : Pure P gl f args r := by
  unfold Goal walk at hwp
  cases hb : fn.body with
  | none => rw [hb] at hwp; exact hwp.elim
  | some code => rw [hb] at hwp; exact pure_of hf hb hname hm hn hwp

theorem wp_br (hk : T.kind = 2) {b : Bool} (hb : T.cnd = b) (h1 : b = true → Goal P gl T.thn) (h2 : b = false → Goal P gl T.els) : Goal P gl T := by
  cases T <;> simp [Tree.kind] at hk
  subst hb
  exact ⟨h1, h2⟩
theorem wp_tt (hk : T.kind = 2) (hb : T.cnd = true) (h1 : Goal P gl T.thn) : Goal P gl T := wp_br hk hb (fun _ => h1) (fun h => by cases h)
theorem wp_ff (hk : T.kind = 2) (hb : T.cnd = false) (h1 : Goal P gl T.els) : Goal P gl T := wp_br hk hb (fun h => by cases h) (fun _ => h1)
theorem wp_req (hk : T.kind = 3) {p : Prop} (hp : T.prp = p) (h : p) (ht : Goal P gl T.nxt) : Goal P gl T := by
  cases T <;> simp [Tree.kind] at hk
  subst hp
  exact ⟨h, ht⟩
theorem wp_fin (hk : T.kind = 1) {p : Prop} (hp : T.prp = p) (h : p) : Goal P gl T := by
  cases T <;> simp [Tree.kind] at hk
  subst hp
  exact h
theorem wp_sc (hk : T.kind = 4) {f : FuncId} {args : List AV} (r : AV) (hp : Pure P gl f args r) (hf : T.fid = f) (ha : T.arg = args) (hs : sc 9 r = true) (ht : Goal P gl (T.go r)) : Goal P gl T := by
  cases T <;> simp [Tree.kind] at hk
  subst hf; subst ha
  exact ⟨r, fun _ => hp, hs, ht⟩
/-- Under a guard. -/
theorem wp_scg (hk : T.kind = 4) {g : Bool} {f : FuncId} {args : List AV} (r : AV) (hp : g = true → Pure P gl f args r) (hg : T.gd = g) (hf : T.fid = f) (ha : T.arg = args) (hs : sc 9 r = true) (ht : Goal P gl (T.go r)) : Goal P gl T := by
  cases T <;> simp [Tree.kind] at hk
  subst hf; subst ha; subst hg
  exact ⟨r, hp, hs, ht⟩
theorem wp_dc (hk : T.kind = 5) {f : FuncId} {args : List AV} (r : AV) (hp : Pure P gl f args r) (hf : T.fid = f) (ha : T.arg = args) (ht : Goal P gl (T.go r)) : Goal P gl T := by
  cases T <;> simp [Tree.kind] at hk
  subst hf; subst ha
  exact ⟨r, fun _ => hp, ht⟩
theorem wp_dcg (hk : T.kind = 5) {g : Bool} {f : FuncId} {args : List AV} (r : AV) (hp : g = true → Pure P gl f args r) (hg : T.gd = g) (hf : T.fid = f) (ha : T.arg = args) (ht : Goal P gl (T.go r)) : Goal P gl T := by
  cases T <;> simp [Tree.kind] at hk
  subst hf; subst ha; subst hg
  exact ⟨r, hp, ht⟩
theorem wp_out (hk : T.kind = 6) {x r : AV} (hx : T.res = some x) (hr : T.want = r) (h : Ent x r) : Goal P gl T := by
  cases T <;> simp [Tree.kind] at hk
  simp only [Tree.res, Tree.want] at hx hr
  subst hr
  exact ⟨x, hx, h⟩

end

attribute [irreducible] Goal walk Tree.kind Tree.cnd Tree.thn Tree.els Tree.prp Tree.nxt Tree.fid Tree.arg Tree.gd Tree.go Tree.res Tree.want

end Go.Am
