/- Part of the proof: EnBld, JH0, JH1, JA1, KM2, KM3, EnShp, SpOpen, SpOpenP. -/
import Derived.Test.YtbmdmoknnlhdoaaGreatDoorM3
import Derived.Test.YtbmdmoknnlhdoaaGreatDoorM7
import Derived.Shelf.Strings.BuilderK
import Derived.Test.YtbmdmoknnlhdoaaGreatDoorM5
import Derived.Test.YtbmdmoknnlhdoaaGreatDoorM4
import Derived.Test.YtbmdmoknnlhdoaaGreatDoorProg
import Derived.HandedShaped
import Derived.Shelf.Vars
set_option linter.unusedVariables false
namespace Go.Am
open Go Go.RowKit Go.Shelf Go.Proofs

section
variable {P : Program} {ρ : Ren} {gl : Globs}

theorem two_cells {cs : Array Value} (h : cs.size = 2) : ∃ a b, cs = #[a, b] := by
  obtain ⟨l⟩ := cs
  match l, h with
  | [a, b], _ => exact ⟨a, b, rfl⟩

theorem gives_copyCheck (L : Lays.n240 P ρ) (X : Builder.X72 P ρ) (hE : Enters P (ρ.f 240)) {S : AV} {rest : List Ob} :
    Gives P gl (ρ.f 240) (⟨2, 1, true, .ty (ρ.t 72) (.lst [[.junk, S]])⟩ :: rest) [.own 0 2 0 0 2] (.tup []) (some ⟨2, 1, true, .ty (ρ.t 72) (.lst [[.junk, S]])⟩ :: rest.map some) := by
  refine ⟨hE, fun β w vs hF hgiv hgl hargs => ?_⟩
  obtain ⟨u, rfl, hu⟩ := rels1 hargs
  rcases hgiv.holds 0 _ rfl with ⟨b, hb, cs, el, hheap, hsz, hcells⟩ | ⟨_, h⟩
  rotate_left
  · cases h
  obtain ⟨hnt, rfl, hex⟩ := hsz.ty _ rfl
  obtain ⟨hcz, hfst⟩ := hex (show 1 < 2 by decide)
  have hcz : cs.size = 2 := hcz
  obtain ⟨x0, x1, rfl⟩ := two_cells hcz
  obtain ⟨y1, e1, hr1, ho1⟩ := hcells 0 1 (show 0 < 1 by decide) (show 1 < 2 by decide)
  cases e1
  replace hr1 : Rel β w S x1 := hr1
  have hup : u = .pointer (some ⟨b, 0, none⟩) := by
    cases hu with
    | own h hi hj =>
      rw [hb] at h; cases h
      simp
    | ownD h => rw [hb] at h; cases h
  subst hup
  have hlt := (hgiv.lt 0 b _ _ hb).1
  have aft : ∀ w' : World, (∃ y, w'.heap[b]? = some (.cells #[y, x1] (ρ.t 72) (0, 0)) ∧ y = .pointer (some ⟨b, 0, none⟩)) → Keeps β w β w' → w'.heap.size = w.heap.size → (∀ k, k ≠ b → w'.heap[k]? = w.heap[k]?) →
      After β β w w' (some ⟨2, 1, true, .ty (ρ.t 72) (.lst [[.junk, S]])⟩ :: rest.map some) := fun w' ⟨y, hy, ey⟩ hk hsize hoth => by
    refine ⟨rfl, fun k ob hkk => ?_, fun k hkk => hgiv.none k (by simpa using hkk), hgiv.inj, fun k b' n mu h => ⟨by rw [hsize]; exact (hgiv.lt k b' n mu h).1, .inr ⟨k, n, mu, h⟩⟩, fun k o h => ⟨o, h, o.later_refl⟩⟩
    cases k with
    | zero =>
      cases hkk
      refine .inl ⟨b, hb, #[y, x1], ρ.t 72, hy, ⟨by show 1 * 2 ≤ 2; decide, fun t h => by cases h; exact ⟨hnt, rfl, fun _ => ⟨rfl, .inr (by rw [ey]; rfl)⟩⟩⟩, fun i j hi hj => ?_⟩
      have hi : i < 1 := hi
      have hj : j < 2 := hj
      obtain rfl : i = 0 := by omega
      match j, hj with
      | 0, _ => exact ⟨y, rfl, .junk, by rw [ey]; rfl⟩
      | 1, _ => exact ⟨x1, rfl, (hr1.keep hk : Rel β w' S x1), ho1⟩
    | succ k =>
      have hkk' : rest[k]? = some ob := by
        have : (rest.map some)[k]? = some (some ob) := by simpa using hkk
        rw [List.getElem?_map] at this
        cases hr : rest[k]? with
        | none => rw [hr] at this; cases this
        | some x => rw [hr] at this; cases this; rfl
      rcases hgiv.holds (k + 1) ob (by simpa using hkk') with ⟨b', h1, h2⟩ | ⟨h1, h2⟩
      · refine .inl ⟨b', h1, h2.keep hk (hoth b' fun e => ?_)⟩
        subst e
        exact absurd (hgiv.inj _ _ _ _ _ _ _ hb h1) (by omega)
      · exact .inr ⟨h1, h2⟩
  rcases hfst with hx0 | hx0
  · have hx0 : x0 = .pointer none := by simpa using hx0
    subst hx0
    have hw : (w.setCell ⟨b, 0, none⟩ (.pointer (some ⟨b, 0, none⟩))).heap[b]? = some (.cells (#[Value.pointer none, x1].setIfInBounds 0 (.pointer (some ⟨b, 0, none⟩))) (ρ.t 72) (0, 0)) := by
      simp [World.setCell, Array.getElem?_modify, hheap]
    have hwr : Wrote w (w.setCell ⟨b, 0, none⟩ (.pointer (some ⟨b, 0, none⟩))) b (#[Value.pointer none, x1].setIfInBounds 0 (.pointer (some ⟨b, 0, none⟩))) (ρ.t 72) :=
      ⟨hw, fun k hk => Below.heap_setCell w _ _ k hk, World.size_setCell .., rfl, rfl, rfl⟩
    refine (Any.Builder_copyCheck_fresh L X b w (by simp [World.cell?, hheap]) (by simp [World.shape?, hheap]) (by simp [World.frozen?, hheap])).mono fun e w' hh => ?_
    obtain ⟨rfl, rfl⟩ := hh
    have hk : Keeps β w β (w.setCell ⟨b, 0, none⟩ (.pointer (some ⟨b, 0, none⟩))) := hwr.keeps hheap (by simp) hb
    exact ⟨_, β, rfl, hwr.kept hheap (by simp) (.inr ⟨0, _, _, hb⟩), aft _ ⟨_, by rw [hw]; rfl, rfl⟩ hk hwr.size hwr.other, .tup rfl (fun j u v h => by simp at h)⟩
  · have hx0 : x0 = .pointer (some ⟨b, 0, none⟩) := by simpa using hx0
    subst hx0
    refine (Any.Builder_copyCheck_used L X b w (by simp [World.cell?, hheap])).mono fun e w' hh => ?_
    obtain ⟨rfl, rfl⟩ := hh
    exact ⟨_, β, rfl, Kept.refl _ _ _, aft _ ⟨_, hheap, rfl⟩ (Keeps.refl _ _) rfl (fun _ _ => rfl), .tup rfl (fun j u v h => by simp at h)⟩

theorem freeze_other (w : World) (a : Addr) (n k : Nat) (h : k ≠ a.block) : (w.freeze a n).heap[k]? = w.heap[k]? := by
  unfold World.freeze
  split
  · rfl
  · simp only [Array.getElem?_modify]; rw [if_neg (fun e => h e.symm)]

set_option maxHeartbeats 1000000 in
set_option maxRecDepth 100000 in
theorem gives_string (L : Lays.n169 P ρ) (X : Builder.Extra P ρ) (hE : Enters P (ρ.f 169)) {R1 : Rep} {f : Nat → Nat → AV} {l : List UInt8} (h0 : l ≠ []) (hl : l.length ≤ 140737488355328) (hR1 : R1 0 1 = .osl 1 1 0 l.length)
    (hf : ∀ i, i < l.length → f i 0 = .int .u8 ((l.getD i 0).toNat : Int)) :
    Gives P gl (ρ.f 169) [⟨2, 1, true, R1⟩, ⟨1, l.length, true, .ty (ρ.t 5) (.fn f)⟩] [.own 0 2 0 0 2] (.str ⟨l.toArray⟩) [none, none] := by
  refine ⟨hE, fun β w vs hF hgiv hgl hargs => ?_⟩
  obtain ⟨u, rfl, hu⟩ := rels1 hargs
  have hl0 : l.length ≠ 0 := by simpa using h0
  rcases hgiv.holds 0 _ rfl with ⟨b, hb, cs, el, hheap, hsz, hcells⟩ | ⟨_, h⟩
  rotate_left
  · cases h
  rcases hgiv.holds 1 _ rfl with ⟨g, hg, cs1, el1, hheap1, hsz1, hcells1⟩ | ⟨_, h⟩
  rotate_left
  · exact absurd h hl0
  obtain ⟨_, rfl, _⟩ := hsz1.ty _ rfl
  have hup : u = .pointer (some ⟨b, 0, none⟩) := by
    cases hu with
    | own h hi hj => rw [hb] at h; cases h; simp
    | ownD h => rw [hb] at h; cases h
  subst hup
  obtain ⟨y1, e1, hr1, _⟩ := hcells 0 1 (by show 0 < 1; decide) (by show 1 < 2; decide)
  replace hr1 : Rel β w (R1 0 1) y1 := hr1
  rw [hR1] at hr1
  obtain ⟨cap, rfl, hcap⟩ : ∃ cap, y1 = .slice (some ⟨g, 0, none⟩) l.length cap ∧ l.length ≤ cap := by
    generalize hz : l.length = z at hr1
    cases hr1 with
    | osl h hn hc hs hz' =>
      have h : β.m 1 = _ := h
      rw [hg] at h; cases h
      exact ⟨_, by simp, hc⟩
    | osl0 h => exact absurd hz hl0
    | oslD h => have h : β.m 1 = _ := h; rw [hg] at h; cases h
  have hle : l.length * 1 ≤ cs1.size := hsz1.le
  have c1 : w.drew.cell? ⟨b, 1, none⟩ = some (.slice (some ⟨g, 0, none⟩) l.length cap) := by
    have hh : w.drew.heap[b]? = some (.cells cs el (0, 0)) := hheap
    simp only [World.cell?, hh]
    exact e1
  have hSD : (Builtin.unsafeSliceData_ #[(ρ.t 37)] (ρ.t 127) #[.slice (some ⟨g, 0, none⟩) l.length cap]).run P w.drew = .ok (.pointer (some ⟨g, 0, none⟩)) w.drew :=
    Lib.run_unsafeSliceData_row _ _ _ _ _ _ (by omega)
  have hUS : (Builtin.unsafeString_ #[(ρ.t 127), (ρ.t 3)] (ρ.t 9) #[.pointer (some ⟨g, 0, none⟩), .int .i64 l.length]).run P w.drew = .ok (.string ⟨l.toArray⟩) (w.drew.freeze ⟨g, 0, none⟩ l.length) := by
    have hh : w.drew.heap[g]? = some (.cells cs1 (ρ.t 5) (0, 0)) := hheap1
    refine Lib.run_unsafeString_row w.drew (ρ.t 127) (ρ.t 3) (ρ.t 9) (ρ.t 5) L.t127 X.cellsByte g cs1.size (by simp [World.shape?, hh]) l h0 (by omega) (by omega) ?_
    intro j x hx
    have hj : j < l.length := (List.getElem?_eq_some_iff.1 hx).1
    obtain ⟨y, k1, k2, _⟩ := hcells1 j 0 hj (by show 0 < 1; decide)
    replace k2 : Rel β w (f j 0) y := k2
    rw [hf j hj] at k2
    have e2 : l.getD j 0 = x := by rw [List.getD_eq_getElem?_getD, hx]; rfl
    rw [e2] at k2
    have := rel_int_inv k2
    subst this
    have ea : (⟨g, 0, none⟩ : Addr).add j = ⟨g, j, none⟩ := by
      unfold Addr.add
      split
      · rename_i h; subst h; rfl
      · simp
    rw [ea]
    simp only [World.cell?, hh]
    simpa using k1
  have mixed := L.mixed
  have t72 := L.t72; have a72 := L.a72; have z72 := L.z72; have v72 := L.v72; have u72 := run_underlying L.t72
  have t70 := L.t70; have a70 := L.a70; have z70 := L.z70; have v70 := L.v70; have u70 := run_underlying L.t70
  have t37 := L.t37; have a37 := L.a37; have z37 := L.z37; have v37 := L.v37; have u37 := run_underlying L.t37
  have t127 := L.t127; have a127 := L.a127; have z127 := L.z127; have v127 := L.v127; have u127 := run_underlying L.t127
  have t3 := L.t3; have a3 := L.a3; have z3 := L.z3; have v3 := L.v3; have u3 := run_underlying L.t3
  have t9 := L.t9; have a9 := L.a9; have z9 := L.z9; have v9 := L.v9; have u9 := run_underlying L.t9
  have t5 := X.t5; have a5 := X.a5; have z5 := X.z5; have v5 := X.v5; have u5 := run_underlying X.t5
  have key : Calls P (ρ.f 169) #[.pointer (some ⟨b, 0, none⟩)] w fun e w' => e = .returned (.string ⟨l.toArray⟩) ∧ w' = w.drew.freeze ⟨g, 0, none⟩ l.length := by
    clear hgiv hgl hargs hF
    go_enter L.f169, Body.n169_ntmps ρ
    go_wp2
    go_region_o
    all_goals (go_wp2; go_ret; exact ⟨rfl, rfl⟩)
  refine key.mono fun e w' hh => ?_
  obtain ⟨rfl, rfl⟩ := hh
  have hoth : ∀ k, k ≠ g → (w.drew.freeze ⟨g, 0, none⟩ l.length).heap[k]? = w.heap[k]? := fun k hk => freeze_other w.drew _ _ k hk
  have hgs := hgiv.lt 1 g _ _ hg
  have hfz : ∃ z, (w.drew.freeze ⟨g, 0, none⟩ l.length).heap[g]? = some (.cells cs1 (ρ.t 5) z) := by
    have hh : w.drew.heap[g]? = some (.cells cs1 (ρ.t 5) (0, 0)) := hheap1
    unfold World.freeze
    split
    · exact ⟨_, hh⟩
    · simp only [Array.getElem?_modify, if_pos]
      rw [hh]; exact ⟨_, rfl⟩
  obtain ⟨z, hfz⟩ := hfz
  have hsize : (w.drew.freeze ⟨g, 0, none⟩ l.length).heap.size = w.heap.size := by
    unfold World.freeze
    split
    · rfl
    · show (Array.modify w.heap _ _).size = _
      simp
  have hmeta : (w.drew.freeze ⟨g, 0, none⟩ l.length).os = w.os ∧ (w.drew.freeze ⟨g, 0, none⟩ l.length).tape = w.tape ∧ (w.drew.freeze ⟨g, 0, none⟩ l.length).output = w.output := by
    unfold World.freeze
    split <;> exact ⟨rfl, rfl, rfl⟩
  refine ⟨_, ⟨fun k => if k < 2 then some .dead else none, β.F⟩, rfl, ⟨hmeta.1, hmeta.2.1, hmeta.2.2, by rw [hsize]; exact Nat.le_refl _, fun k _ hG => hoth k (fun e => hG ⟨1, _, _, e ▸ hg⟩), fun k _ => ?_, fun k o ho hc => ?_⟩,
    ⟨rfl, fun k ob hk => ?_, fun k hk => if_neg (by simp at hk; omega), fun i j b n n' mu mu' e1 => ?_, fun k b n mu e1 => ?_, fun k o ho => ?_⟩, .str⟩
  · by_cases e : k = g
    · subst e; simp [World.shape?, hfz, hheap1]
    · unfold World.shape?; rw [hoth k e]
  · rw [hoth k (fun e => by subst e; rw [hheap1] at ho; cases ho; cases hc)]; exact ho
  · match k, hk with
    | 0, hk => cases hk
    | 1, hk => cases hk
    | k + 2, hk => simp at hk
  · exfalso
    have e1 : (if i < 2 then some Own.dead else none) = some (.lives b n mu) := e1
    split at e1 <;> cases e1
  · exfalso
    have e1 : (if k < 2 then some Own.dead else none) = some (.lives b n mu) := e1
    split at e1 <;> cases e1
  · by_cases hk : k < 2
    · exact ⟨.dead, if_pos hk, by cases o <;> trivial⟩
    · rw [hgiv.none k (by simp; omega)] at ho; cases ho
end
theorem tyc_ty (t : TypeId) (f g : Rep) : tyc (.ty t f) (.ty t g) = true := Bool.or_eq_true_iff.2 (.inr (Nat.beq_refl t))
theorem obT_eq {os : List (Option Ob)} {mu : Bool} {t : TypeId} {k : IntKind} {n n' : Nat} {f g : Nat → Nat → Int} (hn : n = n') (h : ∀ i, i < n → f i 0 = g i 0) : ObEnt os ⟨1, n, mu, .ty t (.fn fun i j => .int k (f i j))⟩ ⟨1, n', mu, .ty t (.fn fun i j => .int k (g i j))⟩ := by
  subst hn
  refine ⟨congrArg (Prod.mk 1) (tyc_ty t _ _), rfl, rfl, fun i j hi hj => Ent.of_eq ?_⟩
  obtain rfl : j = 0 := Nat.lt_one_iff.1 hj
  exact congrArg (AV.int k) (h i hi)
theorem obB_ent {os : List (Option Ob)} {mu : Bool} {t : TypeId} {a S S' : AV} (h : Ent os S S') : ObEnt os ⟨2, 1, mu, .ty t (.lst [[a, S]])⟩ ⟨2, 1, mu, .ty t (.lst [[.junk, S']])⟩ :=
  ⟨congrArg (Prod.mk 2) (tyc_ty t _ _), rfl, rfl, fun i j hi hj => by
    have hi : i < 1 := hi
    have hj : j < 2 := hj
    obtain rfl : i = 0 := by omega
    match j, hj with
    | 0, _ => exact Ent.junk _
    | 1, _ => exact h⟩
end Go.Am

namespace Go.Proofs.YtbmdmoknnlhdoaaGreatDoor
open Go Go.Am Go.Sp Go.Lib Go.RowKit Go.Shelf
set_option maxRecDepth 100000

def bld_ren : Go.Shelf.Ren := ⟨fun | 156 => 70 | 165 => 115 | 166 => 65 | 167 => 33 | 169 => 36 | 240 => 69 | 241 => 158 | 276 => 114 | 277 => 196 | n => n, fun | 31 => 47 | 9 => 9 | 3 => 3 | 4 => 4 | 0 => 0 | 20 => 20 | 72 => 95 | 76 => 113 | 70 => 92 | 37 => 93 | 75 => 97 | 127 => 131 | 164 => 176 | 5 => 5 | 80 => 101 | n => n, fun | n => n⟩
theorem bld_lays : Lays.n167 Tryz.prog bld_ren := {
  mixed := mixed
  f167 := Tryz.func33.trans (congrArg some (by kernel_rfl))
  f240 := Tryz.func69.trans (congrArg some (by kernel_rfl))
  f276 := Tryz.func114.trans (congrArg some (by kernel_rfl))
  t0 := Tryz.underlying0
  a0 := Tryz.isAgg0
  z0 := Tryz.sizeOf0
  v0 := Tryz.zeroValue0
  t4 := Tryz.underlying4
  a4 := Tryz.isAgg4
  z4 := Tryz.sizeOf4
  v4 := Tryz.zeroValue4
  t5 := Tryz.underlying5
  a5 := Tryz.isAgg5
  z5 := Tryz.sizeOf5
  v5 := Tryz.zeroValue5
  t9 := Tryz.underlying9
  a9 := Tryz.isAgg9
  z9 := Tryz.sizeOf9
  v9 := Tryz.zeroValue9
  t20 := Tryz.underlying20
  a20 := Tryz.isAgg20
  z20 := Tryz.sizeOf20
  v20 := Tryz.zeroValue20
  t37 := Tryz.underlying93
  a37 := Tryz.isAgg93
  z37 := Tryz.sizeOf93
  v37 := Tryz.zeroValue93
  t70 := Tryz.underlying92
  a70 := Tryz.isAgg92
  z70 := Tryz.sizeOf92
  v70 := Tryz.zeroValue92
  t72 := Tryz.underlying95
  a72 := Tryz.isAgg95
  z72 := Tryz.sizeOf95
  v72 := Tryz.zeroValue95
  t75 := Tryz.underlying97
  a75 := Tryz.isAgg97
  z75 := Tryz.sizeOf97
  v75 := Tryz.zeroValue97
  t164 := Tryz.underlying176
  a164 := Tryz.isAgg176
  z164 := Tryz.sizeOf176
  v164 := Tryz.zeroValue176 }
theorem bld_extra : Builder.Extra Tryz.prog bld_ren := {
  sizeBuilder := by kernel_rfl
  liesBuilder := by kernel_rfl
  t5 := Tryz.underlying5
  a5 := Tryz.isAgg5
  z5 := Tryz.sizeOf5
  v5 := Tryz.zeroValue5
  infoByte := by kernel_rfl
  cellsByte := by kernel_rfl
  sizeByte := by kernel_rfl
  neB5 := by decide }

abbrev kJH10 : List UInt8 := [(48 : UInt8), (49 : UInt8), (50 : UInt8), (51 : UInt8), (52 : UInt8), (53 : UInt8), (54 : UInt8), (55 : UInt8), (56 : UInt8), (57 : UInt8), (97 : UInt8), (98 : UInt8), (99 : UInt8), (100 : UInt8), (101 : UInt8), (102 : UInt8)]
abbrev glJ : Globs := gl0
theorem pure_up {P : Program} {gl gl' : Globs} {f : FuncId} {args : List AV} {r : AV} (h : Am.Pure P gl f args r) (hs : ∀ g m x, gl g = some (m, x) → gl' g = some (m, x)) : Am.Pure P gl' f args r :=
  ⟨h.1, fun β w vs hF hG hg ha => h.2 β w vs hF hG (fun g m x e => hg g m x (hs g m x e)) ha⟩
theorem glJ_mem {g : Nat} (h : glJ g ≠ none) : g = 11 ∨ g = 13 ∨ g = 6 ∨ g = 8 := by
  have nb : ∀ k, ¬ g = k → Nat.beq g k = false := fun k hk => by
    cases e : Nat.beq g k with
    | false => rfl
    | true => exact absurd (Nat.eq_of_beq_eq_true e) hk
  by_cases h1 : g = 11
  · exact .inl h1
  by_cases h2 : g = 13
  · exact .inr (.inl h2)
  by_cases h3 : g = 6
  · exact .inr (.inr (.inl h3))
  by_cases h4 : g = 8
  · exact .inr (.inr (.inr h4))
  refine absurd ?_ h
  unfold glJ gl0
  rw [nb _ h1, nb _ h2, nb _ h3, nb _ h4]; rfl
def glU (a b : Globs) : Globs := fun g => match a g with | some x => some x | none => b g
theorem up_l {P : Program} {a b : Globs} {f : FuncId} {args : List AV} {r : AV} (h : Am.Pure P a f args r) : Am.Pure P (glU a b) f args r := pure_up h fun g m x e => by unfold glU; rw [e]
theorem up_r {P : Program} {a b : Globs} {f : FuncId} {args : List AV} {r : AV} (hd : ∀ g, a g ≠ none → b g = none) (h : Am.Pure P b f args r) : Am.Pure P (glU a b) f args r := pure_up h fun g m x e => by
  unfold glU
  cases ha : a g with
  | none => exact e
  | some y => rw [hd g (by rw [ha]; simp)] at e; cases e
def owB : FuncId → Option (List Bool) := fun f => bif Nat.beq f 69 then some [true] else bif Nat.beq f 33 then some [true, false] else bif Nat.beq f 36 then some [true] else none
theorem cc_1 (n : Nat) (f : Nat → Int) : Gives Tryz.prog gl0 69 [⟨2, 1, true, .ty 95 (.lst [[.junk, .osl 1 1 0 n]])⟩, ⟨1, n, true, .ty 5 (.fn fun i _ => .int .u8 (f i))⟩] [.own 0 2 0 0 2] (.tup []) [some ⟨2, 1, true, .ty 95 (.lst [[.junk, .osl 1 1 0 n]])⟩, some ⟨1, n, true, .ty 5 (.fn fun i _ => .int .u8 (f i))⟩] :=
  gives_copyCheck (ρ := bld_ren) { bld_lays with } bld_extra.toX72 ⟨_, _, Tryz.func69, rfl, by kernel_rfl⟩ (rest := [_])
theorem st_g (n : Nat) (c : Nat → Int) (l : Str) (hl : l.length = n) (h0 : 0 < n) (hn : n ≤ 140737488355328) (hc : ∀ i, i < n → c i = ((l.getD i 0).toNat : Int)) :
    Gives Tryz.prog gl0 36 [⟨2, 1, true, .ty 95 (.lst [[.junk, .osl 1 1 0 n]])⟩, ⟨1, n, true, .ty 5 (.fn fun i _ => .int .u8 (c i))⟩] [.own 0 2 0 0 2] (.str (bs l)) [none, none] := by
  subst hl
  exact gives_string (ρ := Tryz.lays156_ren) { Tryz.lays156 with } Tryz.Builder_Extra_156 ⟨_, _, Tryz.func36, rfl, by kernel_rfl⟩ (fun e => by rw [e] at h0; exact absurd h0 (by decide)) hn rfl (fun i hi => by rw [hc i hi])

theorem wb_g (n : Nat) (f : Nat → Int) (x : Int) (hn : n ≤ 1099511627776) :
    Gives Tryz.prog gl0 33 [⟨2, 1, true, .ty 95 (.lst [[.junk, .osl 1 1 0 n]])⟩, ⟨1, n, true, .ty 5 (.fn fun i _ => .int .u8 (f i))⟩] [.own 0 2 0 0 2, .int .u8 x] .junk
      [some ⟨2, 1, true, .ty 95 (.lst [[.junk, .osl 2 1 0 (n + 1)]])⟩, none, some ⟨1, n + 1, true, .ty 5 (.fn fun i _ => .int .u8 (bif Nat.blt i n then f i else x))⟩] := by
  have c1 := cc_1 n f
  refine gives_sk (own := owB) (hand := true) Tryz.func33 (by kernel_rfl) mixed (by kernel_rfl)
    (.gc 69 ([{ es := 2, n := 1, mu := true, f := Rep.ty (95 : TypeId) (Rep.lst [[AV.junk, AV.osl (1) (1) (0) n]]) }, { es := 1, n := n, mu := true, f := Rep.ty (5 : TypeId) (Rep.fn fun (i j : Nat) => Zb (f i)) }]) ([AV.own (0) (2) (0) (0) (2)]) (AV.tup []) ([some { es := (2 : Nat), n := (1 : Nat), mu := true, f := Rep.ty (95 : TypeId) (Rep.lst [[AV.junk, AV.osl (1 : Nat) (1 : Nat) (0 : Nat) n]]) }, some { es := (1 : Nat), n := n, mu := true, f := Rep.ty (5 : TypeId) (Rep.fn fun (i x : Nat) => Zb (f i)) }]) (.req ((n + 1) * 1 ≤ 140737488355328) (.out (AV.raw Value.nilIface) ([some { es := 2, n := 1, mu := true, f := Rep.ty (95 : TypeId) (Rep.lst [[AV.junk, AV.osl (2) (1) (0) (n + 1)]]) }, none, some { es := 1, n := n + 1, mu := true, f := Rep.ty (5 : TypeId) (Rep.fn fun (i j : Nat) => Zb (bif Nat.blt i n then f i else intOfAV (atL [Zb x] j))) }]) (AV.junk) ([some { es := (2 : Nat), n := (1 : Nat), mu := true, f := Rep.ty (95 : TypeId) (Rep.lst [[AV.junk, AV.osl (2 : Nat) (1 : Nat) (0 : Nat) (n + (1 : Nat))]]) }, none, some { es := (1 : Nat), n := n + (1 : Nat), mu := true, f := Rep.ty (5 : TypeId) (Rep.fn fun (i x_1 : Nat) => Zb (bif Nat.blt i n then f i else x)) }]))))
    (by kernel_rfl) ?_
  refine k_gc (c1) ?_
  refine k_req (by first | omega | (simp only [Int.toNat_natCast]; omega)) ?_
  exact k_outg (Ent.junk _) (⟨ObEnt.refl _, obT_eq rfl (fun i hi => rfl), trivial⟩)

def hexN (f : Nat → Int) (i : Nat) : Int := ((hexC (f (i / 2))).getD (i % 2) 0).toNat
theorem byte_hi {c : Int} (h : 0 ≤ c ∧ c < 256) : Int.fdiv c ((2 : Int) ^ 4) = c / 16 := Int.fdiv_eq_ediv_of_nonneg _ (by decide)
theorem byte_lo {c : Int} (h : 0 ≤ c ∧ c < 256) : IntKind.wrap .u8 (((BitVec.ofInt 8 c &&& BitVec.ofInt 8 15).toNat : Nat) : Int) = c % 16 := by
  have key : ∀ n : Fin 256, IntKind.wrap .u8 (((BitVec.ofInt 8 ((n.1 : Nat) : Int) &&& BitVec.ofInt 8 15).toNat : Nat) : Int) = ((n.1 : Nat) : Int) % 16 := by decide +kernel
  have := key ⟨c.toNat, by omega⟩
  simp only [Int.toNat_of_nonneg h.1] at this
  exact this
theorem hexN_at (f : Nat → Int) : ∀ n i, i < 2 * n → hexN f i = (((hexF f n).getD i 0).toNat : Int)
  | 0, i, h => absurd h (Nat.not_lt_zero i)
  | n + 1, i, h => by
    have hl := hexF_len f n
    rw [hexF, List.getD_eq_getElem?_getD, List.getElem?_append, hl]
    by_cases hi : i < 2 * n
    · rw [if_pos hi, ← List.getD_eq_getElem?_getD]; exact hexN_at f n i hi
    · rw [if_neg hi, ← List.getD_eq_getElem?_getD]
      have e1 : i / 2 = n := by omega
      have e2 : i % 2 = i - 2 * n := by omega
      unfold hexN; rw [e1, e2]
theorem hexN_0 (f : Nat → Int) (k : Nat) : hexN f (2 * k) = ((hexS.getD (f k / 16).toNat 0).toNat : Int) := by
  unfold hexN hexC; rw [show 2 * k / 2 = k by omega, show 2 * k % 2 = 0 by omega]; rfl
theorem hexN_1 (f : Nat → Int) (k : Nat) : hexN f (2 * k + 1) = ((hexS.getD (f k % 16).toNat 0).toNat : Int) := by
  unfold hexN hexC; rw [show (2 * k + 1) / 2 = k by omega, show (2 * k + 1) % 2 = 1 by omega]; rfl
theorem hexN_s {f : Nat → Int} {x y : Int} {k i : Nat} (hi : i < 2 * k + 1 + 1) (hx : x = hexN f (2 * k)) (hy : y = hexN f (2 * k + 1)) : (bif Nat.blt i (2 * k + 1) then (bif Nat.blt i (2 * k) then hexN f i else x) else y) = hexN f i := by
  by_cases h : i < 2 * k + 1
  · rw [blt_t h]
    by_cases h' : i < 2 * k
    · rw [blt_t h']; rfl
    · rw [blt_f (Nat.le_of_not_lt h'), show i = 2 * k by omega, hx]; rfl
  · rw [blt_f (Nat.le_of_not_lt h), show i = 2 * k + 1 by omega, hy]; rfl
theorem hex_c (f : Nat → Int) (hf : byB f 32) : Pure Tryz.prog gl0 72 [.agg (u8c f)] (.str (bs (hexF f 32))) := by
  have c1 := wb_g
  have c2 : ∀ n, n = 64 → _ := fun n (h : n = 64) => st_g n (hexN f) (hexF f 32) (by rw [hexF_len, h]) (by omega) (by omega) (fun i hi => hexN_at f 32 i (by omega))
  refine pure_sk (own := owB) Tryz.func72 (by kernel_rfl) mixed (by kernel_rfl)
    (.loop ({ x : Nat // x ≤ (32 : Nat) }) (fun (x : { x : Nat // x ≤ (32 : Nat) }) => mkSt [3, 6, 7] [AV.own (0) (2) (0) (0) (2), AV.agg (u8c f), Zi (↑(x.1) : Int)] [some { es := (2 : Nat), n := (1 : Nat), mu := true, f := Rep.ty (95 : TypeId) (Rep.lst [[AV.junk, AV.osl (1 : Nat) (1 : Nat) (0 : Nat) ((2 : Nat) * x.1)]]) }, some { es := (1 : Nat), n := (2 : Nat) * x.1, mu := true, f := Rep.ty (5 : TypeId) (Rep.fn fun (i x : Nat) => Zb (hexN f i)) }]) (fun (x : { x : Nat // x ≤ (32 : Nat) }) => (32 : Nat) - x.1) (⟨(0 : Nat), Nat.zero_le (32 : Nat)⟩) ([3, 6, 7]) ([16, 297]) ([AV.own (0) (2) (0) (0) (2), AV.agg (u8c f), Zi 0]) ([some { es := 2, n := 1, mu := true, f := Rep.ty (95) (Rep.lst [[AV.raw (Value.pointer none), AV.nsl]]) }, some { es := 1, n := 0, mu := true, f := Rep.ty (999999999 : TypeId) (Rep.lst []) }]) (fun x0 => (.br (decide ((↑x0.1 : Int) < (32 : Int))) (.req ((0 : Int) ≤ (↑x0.1 : Int) ∧ (↑x0.1 : Int) < (↑(32) : Int)) (.req ((0 : Int) ≤ Int.fdiv (intOfAV (atL (u8c f) (Int.toNat (↑x0.1 : Int)))) ((2 : Int) ^ 4) ∧ Int.fdiv (intOfAV (atL (u8c f) (Int.toNat (↑x0.1 : Int)))) ((2 : Int) ^ 4) < (↑(16) : Int)) (.gc 33 ([{ es := 2, n := 1, mu := true, f := Rep.ty (95 : TypeId) (Rep.lst [[AV.junk, AV.osl (1) (1) (0) (2 * x0.1)]]) }, { es := 1, n := 2 * x0.1, mu := true, f := Rep.ty (5 : TypeId) (Rep.fn fun (i j : Nat) => Zb (hexN f i)) }]) ([AV.own (0) (2) (0) (0) (2), Zb (↑(UInt8.toNat (List.getD kJH10 (Int.toNat (Int.fdiv (intOfAV (atL (u8c f) (Int.toNat (↑x0.1 : Int)))) ((2 : Int) ^ 4))) (0 : UInt8))) : Int)]) (AV.junk) ([some { es := (2 : Nat), n := (1 : Nat), mu := true, f := Rep.ty (95 : TypeId) (Rep.lst [[AV.junk, AV.osl (2 : Nat) (1 : Nat) (0 : Nat) (2 * x0.1 + (1 : Nat))]]) }, none, some { es := (1 : Nat), n := 2 * x0.1 + (1 : Nat), mu := true, f := Rep.ty (5 : TypeId) (Rep.fn fun (i x : Nat) => Zb (bif Nat.blt i (2 * x0.1) then hexN f i else (↑(UInt8.toNat (List.getD kJH10 (Int.toNat (Int.fdiv (intOfAV (atL (u8c f) (Int.toNat (↑x0.1 : Int)))) ((2 : Int) ^ 4))) (0 : UInt8))) : Int))) }]) (.req ((0 : Int) ≤ IntKind.wrap IntKind.u8 (↑(BitVec.toNat (BitVec.ofInt (8) (intOfAV (atL (u8c f) (Int.toNat (↑x0.1 : Int)))) &&& BitVec.ofInt (8) (15 : Int))) : Int) ∧ IntKind.wrap IntKind.u8 (↑(BitVec.toNat (BitVec.ofInt (8) (intOfAV (atL (u8c f) (Int.toNat (↑x0.1 : Int)))) &&& BitVec.ofInt (8) (15 : Int))) : Int) < (↑(16) : Int)) (.gc 33 ([{ es := 2, n := 1, mu := true, f := Rep.ty (95 : TypeId) (Rep.lst [[AV.junk, AV.osl (1) (1) (0) (2 * x0.1 + 1)]]) }, { es := 1, n := 2 * x0.1 + 1, mu := true, f := Rep.ty (5 : TypeId) (Rep.fn fun (i j : Nat) => Zb (bif Nat.blt i (2 * x0.1) then hexN f i else (↑(UInt8.toNat (List.getD kJH10 (Int.toNat (Int.fdiv (intOfAV (atL (u8c f) (Int.toNat (↑x0.1 : Int)))) ((2 : Int) ^ 4))) (0 : UInt8))) : Int))) }]) ([AV.own (0) (2) (0) (0) (2), Zb (↑(UInt8.toNat (List.getD kJH10 (Int.toNat (IntKind.wrap IntKind.u8 (↑(BitVec.toNat (BitVec.ofInt (8) (intOfAV (atL (u8c f) (Int.toNat (↑x0.1 : Int)))) &&& BitVec.ofInt (8) (15 : Int))) : Int))) (0 : UInt8))) : Int)]) (AV.junk) ([some { es := (2 : Nat), n := (1 : Nat), mu := true, f := Rep.ty (95 : TypeId) (Rep.lst [[AV.junk, AV.osl (2 : Nat) (1 : Nat) (0 : Nat) (2 * x0.1 + 1 + (1 : Nat))]]) }, none, some { es := (1 : Nat), n := 2 * x0.1 + 1 + (1 : Nat), mu := true, f := Rep.ty (5 : TypeId) (Rep.fn fun (i x : Nat) => Zb (bif Nat.blt i (2 * x0.1 + 1) then bif Nat.blt i (2 * x0.1) then hexN f i else (↑(UInt8.toNat (List.getD kJH10 (Int.toNat (Int.fdiv (intOfAV (atL (u8c f) (Int.toNat (↑x0.1 : Int)))) ((2 : Int) ^ 4))) (0 : UInt8))) : Int) else (↑(UInt8.toNat (List.getD kJH10 (Int.toNat (IntKind.wrap IntKind.u8 (↑(BitVec.toNat (BitVec.ofInt (8) (intOfAV (atL (u8c f) (Int.toNat (↑x0.1 : Int)))) &&& BitVec.ofInt (8) (15 : Int))) : Int))) (0 : UInt8))) : Int))) }]) (.again (Again (0) (fun (x : { x : Nat // x ≤ (32 : Nat) }) => mkSt [3, 6, 7] [AV.own (0) (2) (0) (0) (2), AV.agg (u8c f), Zi (↑(x.1) : Int)] [some { es := (2 : Nat), n := (1 : Nat), mu := true, f := Rep.ty (95 : TypeId) (Rep.lst [[AV.junk, AV.osl (1 : Nat) (1 : Nat) (0 : Nat) ((2 : Nat) * x.1)]]) }, some { es := (1 : Nat), n := (2 : Nat) * x.1, mu := true, f := Rep.ty (5 : TypeId) (Rep.fn fun (i x : Nat) => Zb (hexN f i)) }]) (fun (x : { x : Nat // x ≤ (32 : Nat) }) => (32 : Nat) - x.1) x0) ([3, 6, 7]) ([0, 82]) ([AV.own (0) (2) (0) (0) (2), AV.agg (u8c f), Zi (IntKind.wrap IntKind.i64 ((↑x0.1 : Int) + (1 : Int)))]) ([some { es := 2, n := 1, mu := true, f := Rep.ty (95 : TypeId) (Rep.lst [[AV.junk, AV.osl (1) (1) (0) (2 * x0.1 + 1 + 1)]]) }, some { es := 1, n := 2 * x0.1 + 1 + 1, mu := true, f := Rep.ty (5 : TypeId) (Rep.fn fun (i j : Nat) => Zb (bif Nat.blt i (2 * x0.1 + 1) then bif Nat.blt i (2 * x0.1) then hexN f i else (↑(UInt8.toNat (List.getD kJH10 (Int.toNat (Int.fdiv (intOfAV (atL (u8c f) (Int.toNat (↑x0.1 : Int)))) ((2 : Int) ^ 4))) (0 : UInt8))) : Int) else (↑(UInt8.toNat (List.getD kJH10 (Int.toNat (IntKind.wrap IntKind.u8 (↑(BitVec.toNat (BitVec.ofInt (8) (intOfAV (atL (u8c f) (Int.toNat (↑x0.1 : Int)))) &&& BitVec.ofInt (8) (15 : Int))) : Int))) (0 : UInt8))) : Int))) }]))))))) (.gc 36 ([{ es := 2, n := 1, mu := true, f := Rep.ty (95 : TypeId) (Rep.lst [[AV.junk, AV.osl (1) (1) (0) (2 * x0.1)]]) }, { es := 1, n := 2 * x0.1, mu := true, f := Rep.ty (5 : TypeId) (Rep.fn fun (i j : Nat) => Zb (hexN f i)) }]) ([AV.own (0) (2) (0) (0) (2)]) (AV.str (bs (hexF f (32 : Nat)))) ([none, none]) (.out (AV.str (bs (hexF f (32)))) [] (AV.str (bs (hexF f (32 : Nat)))) [])))))
    (by kernel_rfl) ?_
  refine k_loop (fun _ hs => hs.le (by repeat' (first | exact trivial | (first | exact Ent.refl _ | exact inc_ent (by omega) | exact Ent.nil rfl | exact Ent.of_eq (congrArg (AV.osl _ _ _) (by first | omega | (dsimp only; omega))) | exact Ent.of_eq (congrArg (AV.int _) (by first | omega | (dsimp only; omega)))) | refine And.intro ?_ ?_)) (⟨obB_ent (Ent.nil rfl), ObEnt.zero, trivial⟩)) (fun x0 => ?_)
  try (have q0 := x0.2; dsimp only at q0)
  have hb := fun (h : x0.1 < 32) => hf x0.1 h; have hu := fun (h : x0.1 < 32) => u8c_at (g := f) h
  refine k_br (fun h1 => ?_) (fun h1 => ?_)
  · have g1 := cnd_dec_t h1
    refine k_req (by first | omega | (simp only [Int.toNat_natCast]; omega)) ?_
    refine k_req (by rw [Int.toNat_natCast, hu (by omega), byte_hi (hb (by omega))]; have := hb (by omega); omega) ?_
    refine k_gc (c1 (2 * x0.1) (hexN f) ((↑(UInt8.toNat (List.getD [(48 : UInt8), (49 : UInt8), (50 : UInt8), (51 : UInt8), (52 : UInt8), (53 : UInt8), (54 : UInt8), (55 : UInt8), (56 : UInt8), (57 : UInt8), (97 : UInt8), (98 : UInt8), (99 : UInt8), (100 : UInt8), (101 : UInt8), (102 : UInt8)] (Int.toNat (Int.fdiv (intOfAV (atL (u8c f) (Int.toNat (↑x0.1 : Int)))) ((2 : Int) ^ 4))) (0 : UInt8))) : Int)) (by first | assumption | omega)) ?_
    refine k_req (by rw [Int.toNat_natCast, hu (by omega), byte_lo (hb (by omega))]; have := hb (by omega); omega) ?_
    refine k_gc (c1 (2 * x0.1 + 1) (fun (i : Nat) => bif Nat.blt i (2 * x0.1) then hexN f i else (↑(UInt8.toNat (List.getD [(48 : UInt8), (49 : UInt8), (50 : UInt8), (51 : UInt8), (52 : UInt8), (53 : UInt8), (54 : UInt8), (55 : UInt8), (56 : UInt8), (57 : UInt8), (97 : UInt8), (98 : UInt8), (99 : UInt8), (100 : UInt8), (101 : UInt8), (102 : UInt8)] (Int.toNat (Int.fdiv (intOfAV (atL (u8c f) (Int.toNat (↑x0.1 : Int)))) ((2 : Int) ^ 4))) (0 : UInt8))) : Int)) ((↑(UInt8.toNat (List.getD [(48 : UInt8), (49 : UInt8), (50 : UInt8), (51 : UInt8), (52 : UInt8), (53 : UInt8), (54 : UInt8), (55 : UInt8), (56 : UInt8), (57 : UInt8), (97 : UInt8), (98 : UInt8), (99 : UInt8), (100 : UInt8), (101 : UInt8), (102 : UInt8)] (Int.toNat (IntKind.wrap IntKind.u8 (↑(BitVec.toNat (BitVec.ofInt (8) (intOfAV (atL (u8c f) (Int.toNat (↑x0.1 : Int)))) &&& BitVec.ofInt (8) (15 : Int))) : Int))) (0 : UInt8))) : Int)) (by first | assumption | omega)) ?_
    exact k_again (⟨x0.1 + 1, by omega⟩) (fun _ hs => hs.le (by repeat' (first | exact trivial | (first | exact Ent.refl _ | exact inc_ent (by omega) | exact Ent.nil rfl | exact Ent.of_eq (congrArg (AV.osl _ _ _) (by first | omega | (dsimp only; omega))) | exact Ent.of_eq (congrArg (AV.int _) (by first | omega | (dsimp only; omega)))) | refine And.intro ?_ ?_)) (⟨obB_ent (Ent.of_eq (congrArg (AV.osl _ _ _) (by show _ = 2 * (x0.1 + 1); omega))), obT_eq (by show _ = 2 * (x0.1 + 1); omega) (fun i hi => hexN_s hi (by rw [hexN_0, Int.toNat_natCast, hu (by omega), byte_hi (hb (by omega))]; rfl) (by rw [hexN_1, Int.toNat_natCast, hu (by omega), byte_lo (hb (by omega))]; rfl)), trivial⟩)) (by first | omega | (dsimp only; omega) | (simp; omega))
  · have g1 := cnd_dec_f h1
    refine k_gc (c2 (2 * x0.1) (by first | assumption | omega)) ?_
    exact k_out (Ent.of_eq (by first | rfl | simp_all))

theorem hexO (f : Nat → Int) (n m : Nat) (h : m = 2 * n) : strOfNums ((List.range m).map fun r => hexN f (0 + r)) = bs (hexF f n) := by
  subst h
  refine congrArg ByteArray.mk (congrArg List.toArray ?_)
  refine List.ext_getElem (by simp [hexF_len]) (fun i h1 h2 => ?_)
  have hi : i < 2 * n := by simpa using h1
  simp only [List.getElem_map, List.getElem_range, Nat.zero_add]
  rw [hexN_at f n i hi, List.getD_eq_getElem?_getD, List.getElem?_eq_getElem h2]
  simp
theorem byte_qr {c : Int} (h : 0 ≤ c ∧ c < 256) : IntKind.wrap .u8 (Int.tdiv c 16) = c / 16 ∧ Int.tmod c 16 = c % 16 := by
  rw [Int.tdiv_eq_ediv_of_nonneg h.1, Int.tmod_eq_emod_of_nonneg h.1]
  refine ⟨?_, rfl⟩
  unfold IntKind.wrap; simp only [IntKind.signed, IntKind.bits]; simp; omega
theorem obF_eq {os : List (Option Ob)} {mu : Bool} {k : IntKind} {n n' : Nat} {f g : Nat → Nat → Int} (hn : n = n') (h : ∀ i, i < n → f i 0 = g i 0) : ObEnt os ⟨1, n, mu, .fn fun i j => .int k (f i j)⟩ ⟨1, n', mu, .fn fun i j => .int k (g i j)⟩ := by
  subst hn
  refine ⟨rfl, rfl, rfl, fun i j hi hj => Ent.of_eq ?_⟩
  obtain rfl : j = 0 := Nat.lt_one_iff.1 hj
  exact congrArg (AV.int k) (h i hi)
theorem hexR_s {f : Nat → Int} {x y : Int} {k i : Nat} (hi : i < 2 * k + 2) (hx : x = hexN f (2 * k)) (hy : y = hexN f (2 * k + 1)) : (bif Nat.blt i (2 * k) then hexN f i else intOfAV (atL (List.getD [[Zb x], [Zb y]] (i - 2 * k) []) 0)) = hexN f i := by
  by_cases h : i < 2 * k
  · rw [blt_t h]; rfl
  · rw [blt_f (Nat.le_of_not_lt h)]
    by_cases h' : i = 2 * k
    · subst h'; rw [Nat.sub_self, ← hx]; rfl
    · obtain rfl : i = 2 * k + 1 := by omega
      rw [show 2 * k + 1 - 2 * k = 1 by omega, ← hy]; rfl
theorem rhex_c (f : Nat → Int) (hf : byB f 32) : Pure Tryz.prog gl0 76 [.agg (u8c f)] (.str (bs (hexF f 32))) := by
  refine pure_sk (own := ow0) Tryz.func76 (by kernel_rfl) mixed (by kernel_rfl)
    (.loop ({ x : Nat // x ≤ (32 : Nat) }) (fun (x : { x : Nat // x ≤ (32 : Nat) }) => mkSt [1, 3, 4, 5] [AV.own (0) (32) (0) (0) (32), AV.str { data := #[(48 : UInt8), (49 : UInt8), (50 : UInt8), (51 : UInt8), (52 : UInt8), (53 : UInt8), (54 : UInt8), (55 : UInt8), (56 : UInt8), (57 : UInt8), (97 : UInt8), (98 : UInt8), (99 : UInt8), (100 : UInt8), (101 : UInt8), (102 : UInt8)] }, AV.osl (1 : Nat) (1 : Nat) (0 : Nat) ((2 : Nat) * x.1), Zi (↑(x.1) : Int)] [some { es := 32, n := 1, mu := true, f := Rep.lst [u8c f] }, some { es := (1 : Nat), n := (2 : Nat) * x.1, mu := true, f := Rep.fn fun (i x : Nat) => Zb (hexN f i) }]) (fun (x : { x : Nat // x ≤ (32 : Nat) }) => (32 : Nat) - x.1) (⟨(0 : Nat), Nat.zero_le (32 : Nat)⟩) ([1, 3, 4, 5]) ([0, 297]) ([AV.own (0) (32) (0) (0) (32), AV.str { data := #[(48 : UInt8), (49 : UInt8), (50 : UInt8), (51 : UInt8), (52 : UInt8), (53 : UInt8), (54 : UInt8), (55 : UInt8), (56 : UInt8), (57 : UInt8), (97 : UInt8), (98 : UInt8), (99 : UInt8), (100 : UInt8), (101 : UInt8), (102 : UInt8)] }, AV.nsl, Zi 0]) ([some { es := 32, n := 1, mu := true, f := Rep.lst [u8c f] }, some { es := 1, n := 0, mu := true, f := Rep.ty (999999999 : TypeId) (Rep.lst []) }]) (fun x0 => (.br (decide ((↑x0.1 : Int) < (32 : Int))) (.req ((0 : Int) ≤ (↑x0.1 : Int) ∧ (↑x0.1 : Int) < (↑(32) : Int)) (.req ((0 : Int) ≤ IntKind.wrap IntKind.u8 (Int.tdiv (intOfAV (atL (u8c f) (0 + Int.toNat (↑x0.1 : Int)))) (16 : Int)) ∧ IntKind.wrap IntKind.u8 (Int.tdiv (intOfAV (atL (u8c f) (0 + Int.toNat (↑x0.1 : Int)))) (16 : Int)) < (↑(16) : Int)) (.req ((0 : Int) ≤ (↑x0.1 : Int) ∧ (↑x0.1 : Int) < (↑(32) : Int)) (.req ((0 : Int) ≤ Int.tmod (intOfAV (atL (u8c f) (0 + Int.toNat (↑x0.1 : Int)))) (16 : Int) ∧ Int.tmod (intOfAV (atL (u8c f) (0 + Int.toNat (↑x0.1 : Int)))) (16 : Int) < (↑(16) : Int)) (.req ((2 * x0.1 + 2) * 1 ≤ 140737488355328) (.again (Again (0) (fun (x : { x : Nat // x ≤ (32 : Nat) }) => mkSt [1, 3, 4, 5] [AV.own (0) (32) (0) (0) (32), AV.str { data := #[(48 : UInt8), (49 : UInt8), (50 : UInt8), (51 : UInt8), (52 : UInt8), (53 : UInt8), (54 : UInt8), (55 : UInt8), (56 : UInt8), (57 : UInt8), (97 : UInt8), (98 : UInt8), (99 : UInt8), (100 : UInt8), (101 : UInt8), (102 : UInt8)] }, AV.osl (1 : Nat) (1 : Nat) (0 : Nat) ((2 : Nat) * x.1), Zi (↑(x.1) : Int)] [some { es := 32, n := 1, mu := true, f := Rep.lst [u8c f] }, some { es := (1 : Nat), n := (2 : Nat) * x.1, mu := true, f := Rep.fn fun (i x : Nat) => Zb (hexN f i) }]) (fun (x : { x : Nat // x ≤ (32 : Nat) }) => (32 : Nat) - x.1) x0) ([1, 3, 4, 5]) ([0, 130]) ([AV.own (0) (32) (0) (0) (32), AV.str { data := #[(48 : UInt8), (49 : UInt8), (50 : UInt8), (51 : UInt8), (52 : UInt8), (53 : UInt8), (54 : UInt8), (55 : UInt8), (56 : UInt8), (57 : UInt8), (97 : UInt8), (98 : UInt8), (99 : UInt8), (100 : UInt8), (101 : UInt8), (102 : UInt8)] }, AV.osl (1) (1) (0) (2 * x0.1 + 2), Zi (IntKind.wrap IntKind.i64 ((↑x0.1 : Int) + (1 : Int)))]) ([some { es := 32, n := 1, mu := true, f := Rep.lst [u8c f] }, some { es := 1, n := 2 * x0.1 + 2, mu := true, f := Rep.fn fun (i j : Nat) => Zb (bif Nat.blt i (2 * x0.1) then hexN f i else intOfAV (atL (List.getD [[Zb (↑(UInt8.toNat (List.getD kJH10 (Int.toNat (IntKind.wrap IntKind.u8 (Int.tdiv (intOfAV (atL (u8c f) (0 + Int.toNat (↑x0.1 : Int)))) (16 : Int)))) (0 : UInt8))) : Int)], [Zb (↑(UInt8.toNat (List.getD kJH10 (Int.toNat (Int.tmod (intOfAV (atL (u8c f) (0 + Int.toNat (↑x0.1 : Int)))) (16 : Int))) (0 : UInt8))) : Int)]] (i - 2 * x0.1) []) j)) }]))))))) (.req (∀ (r : Nat), r < (2 : Nat) * x0.1 → isIntK IntKind.u8 ((fun (i x : Nat) => Zb (hexN f i)) ((0 : Nat) + r) (0 : Nat)) = true) (.out (AV.str (strOfNums (List.map (fun (r : Nat) => intOfAV (Rep.at (Ob.f (Ob.seen { es := (1 : Nat), n := (2 : Nat) * x0.1, mu := true, f := Rep.fn fun (i x : Nat) => Zb (hexN f i) })) ((0 : Nat) + r) (0 : Nat))) (List.range ((2 : Nat) * x0.1))))) [] (AV.str (bs (hexF f (32 : Nat)))) [])))))
    (by kernel_rfl) ?_
  refine k_loop (fun _ hs => hs.le (by repeat' (first | exact trivial | (first | exact Ent.refl _ | exact inc_ent (by omega) | exact Ent.nil rfl | exact Ent.of_eq (congrArg (AV.osl _ _ _) (by first | omega | (dsimp only; omega))) | exact Ent.of_eq (congrArg (AV.int _) (by first | omega | (dsimp only; omega)))) | refine And.intro ?_ ?_)) (by repeat' (first | exact trivial | (first | exact ObEnt.refl _ | exact ObEnt.junk | exact ObEnt.zero | exact ObEnt.push rfl rfl | exact ObEnt.pushRow rfl | exact ObEnt.len (by omega) | exact ObEnt.row (by repeat' (first | exact trivial | (first | exact Ent.refl _ | exact inc_ent (by omega) | exact Ent.nil rfl | exact Ent.of_eq (congrArg (AV.osl _ _ _) (by first | omega | (dsimp only; omega))) | exact Ent.of_eq (congrArg (AV.int _) (by first | omega | (dsimp only; omega)))) | refine And.intro ?_ ?_))) | refine And.intro ?_ ?_))) (fun x0 => ?_)
  try (have q0 := x0.2; dsimp only at q0)
  have hb := fun (h : x0.1 < 32) => hf x0.1 h; have hu := fun (h : x0.1 < 32) => u8c_at (g := f) h
  refine k_br (fun h1 => ?_) (fun h1 => ?_)
  · have g1 := cnd_dec_t h1
    refine k_req (by first | omega | (simp only [Int.toNat_natCast]; omega)) ?_
    refine k_req (by rw [Int.toNat_natCast, Nat.zero_add, hu (by omega), (byte_qr (hb (by omega))).1]; have := hb (by omega); omega) ?_
    refine k_req (by first | omega | (simp only [Int.toNat_natCast]; omega)) ?_
    refine k_req (by rw [Int.toNat_natCast, Nat.zero_add, hu (by omega), (byte_qr (hb (by omega))).2]; have := hb (by omega); omega) ?_
    refine k_req (by first | omega | (simp only [Int.toNat_natCast]; omega)) ?_
    exact k_again (⟨x0.1 + 1, by omega⟩) (fun _ hs => hs.le (by repeat' (first | exact trivial | (first | exact Ent.refl _ | exact inc_ent (by omega) | exact Ent.nil rfl | exact Ent.of_eq (congrArg (AV.osl _ _ _) (by first | omega | (dsimp only; omega))) | exact Ent.of_eq (congrArg (AV.int _) (by first | omega | (dsimp only; omega)))) | refine And.intro ?_ ?_)) (⟨by first | exact ObEnt.refl _ | exact ObEnt.junk | exact ObEnt.zero | exact ObEnt.push rfl rfl | exact ObEnt.pushRow rfl | exact ObEnt.len (by omega) | exact ObEnt.row (by repeat' (first | exact trivial | (first | exact Ent.refl _ | exact inc_ent (by omega) | exact Ent.nil rfl | exact Ent.of_eq (congrArg (AV.osl _ _ _) (by first | omega | (dsimp only; omega))) | exact Ent.of_eq (congrArg (AV.int _) (by first | omega | (dsimp only; omega)))) | refine And.intro ?_ ?_)), obF_eq (by show _ = 2 * (x0.1 + 1); omega) (fun i hi => hexR_s hi (by rw [hexN_0, Int.toNat_natCast, Nat.zero_add, hu (by omega), (byte_qr (hb (by omega))).1]; rfl) (by rw [hexN_1, Int.toNat_natCast, Nat.zero_add, hu (by omega), (byte_qr (hb (by omega))).2]; rfl)), trivial⟩)) (by first | omega | (dsimp only; omega) | (simp; omega))
  · have g1 := cnd_dec_f h1
    refine k_req (fun r hr => rfl) ?_
    exact k_out (Ent.of_eq (congrArg AV.str (hexO f 32 _ (by omega))))

end Go.Proofs.YtbmdmoknnlhdoaaGreatDoor

namespace Go.Proofs.YtbmdmoknnlhdoaaGreatDoor
open Go Go.Am Go.Sp Go.Lib
set_option maxRecDepth 100000

theorem gcheckN_c (G : Grp) (l : List Int) (h : G.Ok) (hw : G.W) (hl : ∀ i, i < l.length → elemB G (l.getD i 0) = true) (hn : l.length < 1000) : Pure Tryz.prog gl0 180 [G.av, il .i64 l] (.int .i64 0) := by
  have c1 := gvalid_c G hw
  rw [validG_iff.2 h] at c1
  have c2 := fun x => element_c G x hw
  refine pure_sk (own := ow0) Tryz.func180 (by kernel_rfl) mixed (by kernel_rfl)
    (.sc (true) 178 ([AV.agg [Zi G.1, Zi G.2, Zi G.3]]) (AV.bool true) (.ff (.loop ({ x : Nat // x ≤ List.length l }) (fun (x : { x : Nat // x ≤ List.length l }) => mkSt [2, 10, 11, 12] [AV.own (0) (3) (0) (0) (3), AV.isl (1) (List.length l) fun (i x : Nat) => Zi (List.getD l i (0 : Int)), Zi (↑(List.length l) : Int), Zi (↑(x.1) : Int)] [some { es := 3, n := 1, mu := true, f := Rep.lst [[Zi (Grp.p G), Zi (Grp.q G), Zi (Grp.g G)]] }]) (fun (x : { x : Nat // x ≤ List.length l }) => List.length l - x.1) (⟨(0 : Nat), Nat.zero_le (List.length l)⟩) ([2, 10, 11, 12]) ([0]) ([AV.own (0) (3) (0) (0) (3), AV.isl (1) (List.length l) fun (i x : Nat) => Zi (List.getD l i (0 : Int)), Zi (↑(List.length l) : Int), Zi 0]) ([some { es := 3, n := 1, mu := true, f := Rep.lst [[Zi (Grp.p G), Zi (Grp.q G), Zi (Grp.g G)]] }]) (fun x2 => (.br (decide ((↑x2.1 : Int) < (↑(List.length l) : Int))) (.req ((0 : Int) ≤ (↑x2.1 : Int) ∧ (↑x2.1 : Int) < (↑(List.length l) : Int)) (.sc (true) 179 ([AV.agg [Zi G.1, Zi G.2, Zi G.3], Zi (List.getD l (Int.toNat (↑x2.1 : Int)) (0 : Int))]) (AV.bool (elemB G (List.getD l (Int.toNat (↑x2.1 : Int)) (0 : Int)))) (.br (!elemB G (List.getD l (Int.toNat (↑x2.1 : Int)) (0 : Int))) (.out (Zi 2) [] (Zi 0) []) (.again (Again (0) (fun (x : { x : Nat // x ≤ List.length l }) => mkSt [2, 10, 11, 12] [AV.own (0) (3) (0) (0) (3), AV.isl (1) (List.length l) fun (i x : Nat) => Zi (List.getD l i (0 : Int)), Zi (↑(List.length l) : Int), Zi (↑(x.1) : Int)] [some { es := 3, n := 1, mu := true, f := Rep.lst [[Zi (Grp.p G), Zi (Grp.q G), Zi (Grp.g G)]] }]) (fun (x : { x : Nat // x ≤ List.length l }) => List.length l - x.1) x2) ([2, 10, 11, 12]) ([0]) ([AV.own (0) (3) (0) (0) (3), AV.isl (1) (List.length l) fun (i x : Nat) => Zi (List.getD l i (0 : Int)), Zi (↑(List.length l) : Int), Zi (IntKind.wrap IntKind.i64 ((↑x2.1 : Int) + (1 : Int)))]) ([some { es := 3, n := 1, mu := true, f := Rep.lst [[Zi (Grp.p G), Zi (Grp.q G), Zi (Grp.g G)]] }]))))) (.out (Zi 0) [] (Zi 0) []))))))
    (by kernel_rfl) ?_
  refine k_sc (c1) ?_
  refine k_ff ?_
  refine k_loop (fun _ hs => hs.le (by repeat' (first | exact trivial | (first | exact Ent.refl _ | exact inc_ent (by omega) | exact Ent.nil rfl | exact Ent.of_eq (congrArg (AV.osl _ _ _) (by first | omega | (dsimp only; omega))) | exact Ent.of_eq (congrArg (AV.int _) (by first | omega | (dsimp only; omega)))) | refine And.intro ?_ ?_)) (by repeat' (first | exact trivial | (first | exact ObEnt.refl _ | exact ObEnt.junk | exact ObEnt.zero | exact ObEnt.push rfl rfl | exact ObEnt.pushRow rfl | exact ObEnt.len (by omega) | exact ObEnt.row (by repeat' (first | exact trivial | (first | exact Ent.refl _ | exact inc_ent (by omega) | exact Ent.nil rfl | exact Ent.of_eq (congrArg (AV.osl _ _ _) (by first | omega | (dsimp only; omega))) | exact Ent.of_eq (congrArg (AV.int _) (by first | omega | (dsimp only; omega)))) | refine And.intro ?_ ?_))) | refine And.intro ?_ ?_))) (fun x2 => ?_)
  try (have q2 := x2.2; dsimp only at q2)
  refine k_br (fun h3 => ?_) (fun h3 => ?_)
  · have g3 := cnd_dec_t h3
    refine k_req (by first | omega | (simp only [Int.toNat_natCast]; omega)) ?_
    refine k_sc (c2 (List.getD l (Int.toNat (↑x2.1 : Int)) (0 : Int))) ?_
    refine k_br (fun h6 => ?_) (fun h6 => ?_)
    · have g6 := (cnd_not_t cnd_id_f) h6
      try simp only [Int.toNat_natCast] at g6
      exact k_out ((by exfalso; rw [hl x2.1 (by omega)] at g6; cases g6))
    · have g6 := (cnd_not_f cnd_id_t) h6
      try simp only [Int.toNat_natCast] at g6
      exact k_again (⟨x2.1 + 1, by omega⟩) (fun _ hs => hs.le (by repeat' (first | exact trivial | (first | exact Ent.refl _ | exact inc_ent (by omega) | exact Ent.nil rfl | exact Ent.of_eq (congrArg (AV.osl _ _ _) (by first | omega | (dsimp only; omega))) | exact Ent.of_eq (congrArg (AV.int _) (by first | omega | (dsimp only; omega)))) | refine And.intro ?_ ?_)) (by repeat' (first | exact trivial | (first | exact ObEnt.refl _ | exact ObEnt.junk | exact ObEnt.zero | exact ObEnt.push rfl rfl | exact ObEnt.pushRow rfl | exact ObEnt.len (by omega) | exact ObEnt.row (by repeat' (first | exact trivial | (first | exact Ent.refl _ | exact inc_ent (by omega) | exact Ent.nil rfl | exact Ent.of_eq (congrArg (AV.osl _ _ _) (by first | omega | (dsimp only; omega))) | exact Ent.of_eq (congrArg (AV.int _) (by first | omega | (dsimp only; omega)))) | refine And.intro ?_ ?_))) | refine And.intro ?_ ?_))) (by first | omega | (dsimp only; omega) | (simp; omega))
  · have g3 := cnd_dec_f h3
    exact k_out (Ent.of_eq (by first | rfl | simp_all))

theorem gcheckN2 (G : Grp) (a c : Int) (h : G.Ok) (hw : G.W) (ha : elemB G a = true) (hc : elemB G c = true) : Pure Tryz.prog gl0 180 [G.av, .isl 1 2 fun r k => atL (List.getD [[.int .i64 a], [.int .i64 c]] r []) k] (.int .i64 0) :=
  (gcheckN_c G [a, c] h hw (fun i hi => match i, hi with
    | 0, _ => ha
    | 1, _ => hc) (by simp)).via ⟨Ent.refl _, il_rows rfl rfl, trivial⟩

theorem gmulN_c (G : Grp) (a c : Int) (h : G.Ok) (hw : G.W) (ha : elemB G a = true) (hc : elemB G c = true) : Pure Tryz.prog gl0 137 [G.av, .int .i64 a, .int .i64 c] (.tup [.int .i64 (a * c % G.p), .int .i64 0]) := by
  have c1 := gcheckN2 G a c h hw ha hc
  have x := elem_bnd h ha
  have y := elem_bnd h hc
  have k1 := h.p1
  have k2 := chk_ok (a := a) (b := c) (m := G.p) (by omega) (by omega) (by omega) (by omega) (by omega) (by omega)
  refine pure_sk (own := ow0) Tryz.func137 (by kernel_rfl) mixed (by kernel_rfl)
    (.sc (true) 180 ([AV.agg [Zi G.1, Zi G.2, Zi G.3], AV.isl (1) (2) fun (r k : Nat) => atL (List.getD [[Zi a], [Zi c]] (r + 0) []) k]) (Zi 0) (.ff (.sc (true) 181 ([Zi a, Zi c, Zi G.1]) (AV.tup [Zi (okv (chkI a c G.1) (a * c % G.1)), Zi (chkI a c G.1)]) (.out (AV.tup [Zi (okv (chkI a c G.1) (a * c % G.1)), Zi (chkI a c G.1)]) [] (AV.tup [Zi (a * c % Grp.p G), Zi 0]) []))))
    (by kernel_rfl) ?_
  refine k_sc (c1) ?_
  refine k_ff ?_
  refine k_sc (wmul_c (a) (c) (G.1)) ?_
  exact k_out (Ent.of_eq (by rw [k2]; rfl))

theorem key_1 {b : Bas} {x : Int} (h : validB b = false) : keyV b x = 0 ∧ keyE b x = 1 := by
  have e : keyE b x = 1 := keyE_1 (by rw [h]; decide)
  exact ⟨if_neg (by rw [e]; decide), e⟩
theorem key_2 {b : Bas} {x : Int} (h : validB b = true) (g : x = 1 ∨ validG b.gr = false ∨ elemB b.gr x = false) : keyV b x = 0 ∧ keyE b x = 2 := by
  have hG := validG_iff.2 (validB_iff.1 h).G
  have e : keyE b x = 2 := keyE_2 h (by rcases g with g | g | g; (· exact .inl g); (· rw [hG] at g; cases g); (· exact .inr g))
  exact ⟨if_neg (by rw [e]; decide), e⟩
theorem key_g {b : Bas} {x : Int} (g : ¬ x = 1 ∧ validG b.gr = true ∧ elemB b.gr x = true) : ¬ (x = 1 ∨ elemB b.gr x = false) := fun h => by
  rcases h with h | h
  · exact g.1 h
  · rw [g.2.2] at h; cases h
theorem key_3 {b : Bas} {x : Int} (h : validB b = true) (g : ¬ x = 1 ∧ validG b.gr = true ∧ elemB b.gr x = true) (k : x * b.g2 % b.gr.p = 1) : keyV b x = 0 ∧ keyE b x = 10 := by
  have e : keyE b x = 10 := keyE_3 h (key_g g) k
  exact ⟨if_neg (by rw [e]; decide), e⟩
theorem key_4 {b : Bas} {x : Int} (h : validB b = true) (g : ¬ x = 1 ∧ validG b.gr = true ∧ elemB b.gr x = true) (k : ¬ x * b.g2 % b.gr.p = 1) : keyV b x = x * b.g2 % b.gr.p ∧ keyE b x = 0 := by
  have e : keyE b x = 0 := keyE_0 h (key_g g) k
  exact ⟨if_pos e, e⟩
theorem amsg_c (b : Bas) (x : Int) (hw : b.gr.W) : Pure Tryz.prog gl0 87 [b.av, .int .i64 x] (.tup [.int .i64 (keyV b x), .int .i64 (keyE b x)]) := by
  have c1 := bvalid_c b hw
  have c2 := contains_c b.gr x hw
  have c3 := fun h h' => gmulN_c b.gr x b.g2 h hw h'
  refine pure_sk (own := ow0) Tryz.func87 (by kernel_rfl) mixed (by kernel_rfl)
    (.sc (true) 135 ([AV.agg (Bas.cells b)]) (AV.bool (validB b)) (.br (!validB b) (.out (AV.tup [Zi 0, Zi 1]) [] (AV.tup [Zi (keyV b x), Zi (keyE b x)]) []) (.sc ((x == (1 : Int)) == false) 136 ([AV.agg [Zi (Bas.gr b).1, Zi (Bas.gr b).2, Zi (Bas.gr b).3], Zi x]) (AV.bool (validG (Bas.gr b) && elemB (Bas.gr b) x)) (.br (x == (1 : Int) || !(validG b.1 && elemB b.1 x)) (.out (AV.tup [Zi 0, Zi 2]) [] (AV.tup [Zi (keyV b x), Zi (keyE b x)]) []) (.sc (true) 137 ([AV.agg [Zi (Bas.gr b).1, Zi (Bas.gr b).2, Zi (Bas.gr b).3], Zi x, Zi b.3]) (AV.tup [Zi (x * Bas.g2 b % Grp.p (Bas.gr b)), Zi 0]) (.ff (.br (x * b.3 % (Bas.gr b).1 == (1 : Int)) (.out (AV.tup [Zi 0, Zi 10]) [] (AV.tup [Zi (keyV b x), Zi (keyE b x)]) []) (.out (AV.tup [Zi (x * b.3 % (Bas.gr b).1), Zi 0]) [] (AV.tup [Zi (keyV b x), Zi (keyE b x)]) []))))))))
    (by kernel_rfl) ?_
  refine k_sc (c1) ?_
  refine k_br (fun h1 => ?_) (fun h1 => ?_)
  · have g1 := (cnd_not_t cnd_id_f) h1
    exact k_out ((by first | (rw [(key_1 g1).1, (key_1 g1).2]; exact Ent.refl _) | (rw [(key_2 g1 g4).1, (key_2 g1 g4).2]; exact Ent.refl _) | (rw [(key_3 g1 g4 g8).1, (key_3 g1 g4 g8).2]; exact Ent.refl _) | (rw [(key_4 g1 g4 g8).1, (key_4 g1 g4 g8).2]; exact Ent.refl _)))
  · have g1 := (cnd_not_f cnd_id_t) h1
    refine k_scg (fun h3 => c2) ?_
    refine k_br (fun h4 => ?_) (fun h4 => ?_)
    · have g4 := (cnd_or_t cnd_beq_t (cnd_not_t (cnd_and_f cnd_id_f cnd_id_f))) h4
      exact k_out ((by first | (rw [(key_1 g1).1, (key_1 g1).2]; exact Ent.refl _) | (rw [(key_2 g1 g4).1, (key_2 g1 g4).2]; exact Ent.refl _) | (rw [(key_3 g1 g4 g8).1, (key_3 g1 g4 g8).2]; exact Ent.refl _) | (rw [(key_4 g1 g4 g8).1, (key_4 g1 g4 g8).2]; exact Ent.refl _)))
    · have g4 := (cnd_or_f cnd_beq_f (cnd_not_f (cnd_and_t cnd_id_t cnd_id_t))) h4
      refine k_sc (c3 (by first | exact (validB_iff.1 g1).G | exact g4.2.2 | exact (validB_iff.1 g1).e2) (by first | exact (validB_iff.1 g1).G | exact g4.2.2 | exact (validB_iff.1 g1).e2) (by first | exact (validB_iff.1 g1).G | exact g4.2.2 | exact (validB_iff.1 g1).e2)) ?_
      refine k_ff ?_
      refine k_br (fun h8 => ?_) (fun h8 => ?_)
      · have g8 := cnd_beq_t h8
        exact k_out ((by first | (rw [(key_1 g1).1, (key_1 g1).2]; exact Ent.refl _) | (rw [(key_2 g1 g4).1, (key_2 g1 g4).2]; exact Ent.refl _) | (rw [(key_3 g1 g4 g8).1, (key_3 g1 g4 g8).2]; exact Ent.refl _) | (rw [(key_4 g1 g4 g8).1, (key_4 g1 g4 g8).2]; exact Ent.refl _)))
      · have g8 := cnd_beq_f h8
        exact k_out ((by first | (rw [(key_1 g1).1, (key_1 g1).2]; exact Ent.refl _) | (rw [(key_2 g1 g4).1, (key_2 g1 g4).2]; exact Ent.refl _) | (rw [(key_3 g1 g4 g8).1, (key_3 g1 g4 g8).2]; exact Ent.refl _) | (rw [(key_4 g1 g4 g8).1, (key_4 g1 g4 g8).2]; exact Ent.refl _)))

theorem ints_7 (a0 a1 a2 a3 a4 a5 a6 : Int) : Pure Tryz.prog gl0 89 [.isl 1 7 fun r k => atL (List.getD [[.int .i64 a0], [.int .i64 a1], [.int .i64 a2], [.int .i64 a3], [.int .i64 a4], [.int .i64 a5], [.int .i64 a6]] r []) k] (intsI [a0, a1, a2, a3, a4, a5, a6]).av := (ints_c [a0, a1, a2, a3, a4, a5, a6] (by simp)).via ⟨il_rows rfl rfl, trivial⟩
theorem tagS : "specie/account".toUTF8 = ⟨#[115, 112, 101, 99, 105, 101, 47, 97, 99, 99, 111, 117, 110, 116]⟩ := by decide +kernel

theorem aname_no (b : Bas) (x : Int) (hw : b.gr.W) (h : ¬ namE b x = 0) : Pure Tryz.prog gl0 52 [b.av, .int .i64 x] (.tup [.str (bs []), .int .i64 (namE b x)]) := by
  have c1 := amsg_c b x hw
  have e := namE_of b x
  refine pure_sk (own := ow0) Tryz.func52 (by kernel_rfl) mixed (by kernel_rfl)
    (.sc (true) 87 ([AV.agg (Bas.cells b), Zi x]) (AV.tup [Zi (keyV b x), Zi (keyE b x)]) (.br (keyE b x == (10 : Int)) (.out (AV.tup [AV.str { data := #[] }, Zi 2]) [] (AV.tup [AV.str (bs []), Zi (namE b x)]) []) (.br (keyE b x != (0 : Int)) (.out (AV.tup [AV.str { data := #[] }, Zi (keyE b x)]) [] (AV.tup [AV.str (bs []), Zi (namE b x)]) []) .no)))
    (by kernel_rfl) ?_
  refine k_sc (c1) ?_
  refine k_br (fun h1 => ?_) (fun h1 => ?_)
  · have g1 := cnd_beq_t h1
    exact k_out (Ent.of_eq (by split at e <;> first | (exfalso; omega) | rw [e] | (rw [e]; rfl)))
  · have g1 := cnd_beq_f h1
    refine k_br (fun h3 => ?_) (fun h3 => ?_)
    · have g3 := cnd_bne_t h3
      exact k_out (Ent.of_eq (by split at e <;> first | (exfalso; omega) | rw [e] | (rw [e]; rfl)))
    · have g3 := cnd_bne_f h3
      exact (show False from ((by split at e <;> omega)))

theorem ext16 (l : Str) : (bs l).extract 0 (0 + 16) = bs (l.take 16) := by rw [bs_ext, List.drop_zero]
theorem namS_eq (b : Bas) (x : Int) : namS b x = (hexF (tagI "specie/account".toUTF8 (namI b x)) 32).take 16 := rfl
theorem aname_w (b : Bas) (x : Int) (tg : ByteArray) (V : Int) (X : It) (E : List Int) (D : Nat → Int) (H : Str) (ht : tg = ⟨#[115, 112, 101, 99, 105, 101, 47, 97, 99, 99, 111, 117, 110, 116]⟩) (hl : H.length = 64)
    (c1 : Pure Tryz.prog gl0 87 [b.av, .int .i64 x] (.tup [.int .i64 V, .int .i64 0]))
    (c2 : Pure Tryz.prog gl0 89 [.isl 1 7 fun r k => atL (List.getD [[.int .i64 b.gr.p], [.int .i64 b.gr.q], [.int .i64 b.gr.g], [.int .i64 b.g1], [.int .i64 b.g2], [.int .i64 b.h], [.int .i64 x]] r []) k] X.av)
    (c3 : Pure Tryz.prog gl0 88 [X.av] (.tup [il .u8 E, .int .i64 0])) (c4 : Pure Tryz.prog gl0 90 [.str tg, il .u8 E] (.tup [.agg (u8c D), .int .i64 0]))
    (c5 : Pure Tryz.prog gl0 72 [.agg (u8c D)] (.str (bs H))) : Pure Tryz.prog gl0 52 [b.av, .int .i64 x] (.tup [.str (bs (H.take 16)), .int .i64 0]) := by
  subst ht
  have zh := bs_size H
  refine pure_sk (own := ow0) Tryz.func52 (by kernel_rfl) mixed (by kernel_rfl)
    (.sc (true) 87 ([AV.agg (Bas.cells b), Zi x]) (AV.tup [Zi V, Zi 0]) (.ff (.ff (.dc (true) 89 ([AV.isl (1) (7) fun (r k : Nat) => atL (List.getD [[Zi (Bas.gr b).1], [Zi (Bas.gr b).2], [Zi (Bas.gr b).3], [Zi b.2], [Zi b.3], [Zi b.4], [Zi x]] (r + 0) []) k]) (It.av X) (.dc (true) 88 ([AV.agg [Zi (It.kind X), Zi (It.num X), AV.isl (1) (It.nb X) fun (i x : Nat) => Zb (It.fb X i), AV.isl (4) (It.nl X) (It.row X)]]) (AV.tup [il IntKind.u8 E, Zi 0]) (.ff (.sc (true) 90 ([AV.str { data := #[(115 : UInt8), (112 : UInt8), (101 : UInt8), (99 : UInt8), (105 : UInt8), (101 : UInt8), (47 : UInt8), (97 : UInt8), (99 : UInt8), (99 : UInt8), (111 : UInt8), (117 : UInt8), (110 : UInt8), (116 : UInt8)] }, AV.isl (1) (List.length E) fun (i x : Nat) => Zb (List.getD E i (0 : Int))]) (AV.tup [AV.agg (u8c D), Zi 0]) (.ff (.sc (true) 72 ([AV.agg (u8c D)]) (AV.str (bs H)) (.req ((0 : Int) ≤ (16 : Int) ∧ (16 : Int) ≤ (↑(ByteArray.size (bs H)) : Int)) (.out (AV.tup [AV.str (ByteArray.extract (bs H) (0) (16)), Zi 0]) [] (AV.tup [AV.str (bs (List.take (16 : Nat) H)), Zi 0]) [])))))))))))
    (by kernel_rfl) ?_
  refine k_sc (c1) ?_
  refine k_ff ?_
  refine k_ff ?_
  refine k_dc (c2) ?_
  refine k_dc (c3) ?_
  refine k_ff ?_
  refine k_sc (c4) ?_
  refine k_ff ?_
  refine k_sc (c5) ?_
  refine k_req (by first | omega | (simp only [Int.toNat_natCast]; omega)) ?_
  exact k_out (Ent.tup ⟨Ent.of_eq (congrArg AV.str (ext16 H)), Ent.refl _, trivial⟩)
theorem aname_ok (b : Bas) (x : Int) (hw : b.gr.W) (h : namE b x = 0) : Pure Tryz.prog gl0 52 [b.av, .int .i64 x] (.tup [.str (bs (namS b x)), .int .i64 0]) := by
  have c1 := amsg_c b x hw
  have e := namE_of b x
  rw [h] at e
  have k0 : keyE b x = 0 := by split at e <;> omega
  rw [k0] at c1
  rw [namS_eq]
  exact aname_w b x _ _ (namI b x) (namI b x).enc _ _ tagS (hexF_len _ _) c1 (ints_7 ..) (encode_c (namI b x) (namI_ok b x) (by rw [namI_len]; decide))
    (tagged_c "specie/account".toUTF8 (by decide +kernel) (by decide +kernel) (fun i => (namI b x).enc.getD i 0) (namI b x).enc.length (by rw [namI_len]; decide) (It.enc_by (namI_okB b x))) (hex_c (tagI "specie/account".toUTF8 (namI b x)) (tagI_by _ _ _))

theorem rtimes_c (b : Bas) (x : Int) (h : b.Ok) (he : elemB b.gr x = true) : Pure Tryz.prog gl0 95 [b.av, .int .i64 x] (.int .i64 (keyM b x)) := by
  have x1 := elem_bnd h.G he
  have x2 := elem_bnd h.G h.e2
  have k1 := h.G.p1
  have c3 := rmul_c x b.g2 b.gr.p (by omega) (by omega) (by omega) (by omega) (by omega)
  refine pure_sk (own := ow0) Tryz.func95 (by kernel_rfl) mixed (by kernel_rfl)
    (.sc (true) 144 ([Zi x, Zi b.3, Zi (Bas.gr b).1]) (Zi (x * Bas.g2 b % Grp.p (Bas.gr b))) (.out (Zi (x * b.3 % (Bas.gr b).1)) [] (Zi (keyM b x)) []))
    (by kernel_rfl) ?_
  refine k_sc (c3) ?_
  exact k_out (Ent.refl _)

theorem rkey_is (b : Bas) (x : Int) (h : b.Ok) (hw : b.gr.W) : Pure Tryz.prog gl0 58 [b.av, .int .i64 x] (.bool (isK b x)) := by
  have c1 := member_c b.gr x h.G
  have c2 := fun he => rtimes_c b x h he
  refine pure_sk (own := ow0) Tryz.func58 (by kernel_rfl) mixed (by kernel_rfl)
    (.sc ((x != (1 : Int)) == true) 94 ([AV.agg [Zi (Bas.gr b).1, Zi (Bas.gr b).2, Zi (Bas.gr b).3], Zi x]) (AV.bool (elemB (Bas.gr b) x)) (.sc ((x != (1 : Int) && elemB b.1 x) == true) 95 ([AV.agg (Bas.cells b), Zi x]) (Zi (keyM b x)) (.out (AV.bool (x != (1 : Int) && elemB b.1 x && keyM b x != (1 : Int))) [] (AV.bool (isK b x)) [])))
    (by kernel_rfl) ?_
  refine k_scg (fun h0 => c1) ?_
  refine k_scg (fun h1 => c2 ((by simp at h1; exact h1.2))) ?_
  exact k_out (Ent.of_eq (by first | rfl | simp_all))

theorem rnums_c (b : Bas) : Pure Tryz.prog gl0 96 [b.av] (.isl 1 6 fun r k => atL (List.getD [[.int .i64 b.gr.p], [.int .i64 b.gr.q], [.int .i64 b.gr.g], [.int .i64 b.g1], [.int .i64 b.g2], [.int .i64 b.h]] r []) k) := by
  refine pure_sk (own := ow0) Tryz.func96 (by kernel_rfl) mixed (by kernel_rfl)
    (.out (AV.isl (1) (6) fun (r k : Nat) => atL (List.getD [[Zi (Bas.gr b).1], [Zi (Bas.gr b).2], [Zi (Bas.gr b).3], [Zi b.2], [Zi b.3], [Zi b.4]] (r + 0) []) k) [] (AV.isl (1 : Nat) (6 : Nat) fun (r k : Nat) => atL (List.getD [[Zi (Grp.p (Bas.gr b))], [Zi (Grp.q (Bas.gr b))], [Zi (Grp.g (Bas.gr b))], [Zi (Bas.g1 b)], [Zi (Bas.g2 b)], [Zi (Bas.h b)]] r []) k) [])
    (by kernel_rfl) ?_
  exact k_out (Ent.of_eq (by first | rfl | simp_all))

def intsX (l : List Int) (x : Int) (n : Nat) : AV := .agg [.int .i64 3, .int .i64 0, .nsl, .isl 4 (n + 1) fun r k => mixA (Nat.blt (r + 0) n) (atL (It.int (l.getD (r + 0) 0)).cells k) (atL (List.getD [[.int .i64 1, .int .i64 x, .nsl, .nsl]] (r + 0 - n) []) k)]
theorem ints_ent {os : List (Option Ob)} {l : List Int} {x : Int} {n : Nat} (h : n = l.length) : Ent os (intsX l x n) (intsI (l ++ [x])).av := by
  subst h
  have key : ∀ m, m = l.length + 1 → Ent os (intsX l x l.length) (It.li m fun i => .int ((l ++ [x]).getD i 0)).av := by
    rintro _ rfl
    refine Ent.agg ⟨Ent.refl _, Ent.refl _, Ent.nsl, Ent.islE (fun i j hi hj => ⟨?_, It.cl_at _ j hj⟩), trivial⟩
    show Ent os (mixA (Nat.blt i l.length) (atL (It.int (l.getD i 0)).cells j) (atL (List.getD [[.int .i64 1, .int .i64 x, .nsl, .nsl]] (i - l.length) []) j)) (atL (It.int ((l ++ [x]).getD i 0)).cells j)
    by_cases hlt : i < l.length
    · have e : (l ++ [x]).getD i 0 = l.getD i 0 := by simp [List.getD_eq_getElem?_getD, List.getElem?_append_left hlt]
      rw [blt_t hlt, mixA_tt, e]
      exact Ent.refl _
    · obtain rfl : i = l.length := by omega
      rw [blt_f (Nat.le_refl _), mixA_ff, Nat.sub_self, show (l ++ [x]).getD l.length 0 = x by simp [List.getD_eq_getElem?_getD]]
      exact Ent.atL (int_row rfl) j
  exact key _ (by simp)

theorem rname_w (b : Bas) (x : Int) (tg : ByteArray) (l : List Int) (E : List Int) (D : Nat → Int) (H : Str) (ht : tg = ⟨#[115, 112, 101, 99, 105, 101, 47, 97, 99, 99, 111, 117, 110, 116]⟩) (hl : H.length = 64) (h6 : l.length = 6)
    (c1 : Pure Tryz.prog gl0 96 [b.av] (il .i64 l))
    (c3 : ∀ n, n = l.length → Pure Tryz.prog gl0 98 [.agg [.int .i64 3, .int .i64 0, .nsl, .isl 4 (n + 1) fun r k => mixA (Nat.blt (r + 0) n) (atL (It.int (l.getD (r + 0) 0)).cells k) (atL (List.getD [[.int .i64 1, .int .i64 x, .nsl, .nsl]] (r + 0 - n) []) k)]] (il .u8 E)) (c4 : Pure Tryz.prog gl0 97 [.str tg, il .u8 E] (.agg (u8c D)))
    (c5 : Pure Tryz.prog gl0 76 [.agg (u8c D)] (.str (bs H))) : Pure Tryz.prog gl0 59 [b.av, .int .i64 x] (.str (bs (H.take 16))) := by
  subst ht
  have zh := bs_size H
  refine pure_sk (own := ow0) Tryz.func59 (by kernel_rfl) mixed (by kernel_rfl)
    (.dc (true) 96 ([AV.agg (Bas.cells b)]) (il IntKind.i64 l) (.loop ({ x : Nat // x ≤ List.length l }) (fun (x_1 : { x : Nat // x ≤ List.length l }) => mkSt [1, 5, 6, 7] [Zi x, AV.isl (1) (List.length l) fun (i x : Nat) => Zi (List.getD l i (0 : Int)), AV.own (0) (4) (0) (0) (4), Zi (↑(Subtype.val x_1) : Int)] [some { es := (4 : Nat), n := (1 : Nat), mu := true, f := Rep.lst [[Zi 3, Zi 0, AV.nsl, AV.osl (1 : Nat) (4 : Nat) (0 : Nat) (Subtype.val x_1)]] }, some { es := (4 : Nat), n := Subtype.val x_1, mu := true, f := Rep.row fun (i : Nat) => It.cells (It.int (List.getD l i (0 : Int))) }]) (fun (x : { x : Nat // x ≤ List.length l }) => List.length l - x.1) (⟨(0 : Nat), Nat.zero_le (List.length l)⟩) ([1, 5, 6, 7]) ([48, 1097]) ([Zi x, AV.isl (1) (List.length l) fun (i x : Nat) => Zi (List.getD l i (0 : Int)), AV.own (0) (4) (0) (0) (4), Zi 0]) ([some { es := 4, n := 1, mu := true, f := Rep.lst [[Zi 3, Zi 0, AV.nsl, AV.nsl]] }, some { es := 4, n := 0, mu := true, f := Rep.ty (999999999 : TypeId) (Rep.lst []) }]) (fun x1 => (.br (decide ((↑x1.1 : Int) < (↑(List.length l) : Int))) (.req ((0 : Int) ≤ (↑x1.1 : Int) ∧ (↑x1.1 : Int) < (↑(List.length l) : Int)) (.req ((x1.1 + 1) * 64 ≤ 140737488355328) (.again (Again (0) (fun (x_1 : { x : Nat // x ≤ List.length l }) => mkSt [1, 5, 6, 7] [Zi x, AV.isl (1) (List.length l) fun (i x : Nat) => Zi (List.getD l i (0 : Int)), AV.own (0) (4) (0) (0) (4), Zi (↑(Subtype.val x_1) : Int)] [some { es := (4 : Nat), n := (1 : Nat), mu := true, f := Rep.lst [[Zi 3, Zi 0, AV.nsl, AV.osl (1 : Nat) (4 : Nat) (0 : Nat) (Subtype.val x_1)]] }, some { es := (4 : Nat), n := Subtype.val x_1, mu := true, f := Rep.row fun (i : Nat) => It.cells (It.int (List.getD l i (0 : Int))) }]) (fun (x : { x : Nat // x ≤ List.length l }) => List.length l - x.1) x1) ([1, 5, 6, 7]) ([0, 98]) ([Zi x, AV.isl (1) (List.length l) fun (i x : Nat) => Zi (List.getD l i (0 : Int)), AV.own (0) (4) (0) (0) (4), Zi (IntKind.wrap IntKind.i64 ((↑x1.1 : Int) + (1 : Int)))]) ([some { es := 4, n := 1, mu := true, f := Rep.lst [[Zi 3, Zi 0, AV.nsl, AV.osl (1) (4) (0) (x1.1 + 1)]] }, some { es := 4, n := x1.1 + 1, mu := true, f := Rep.cat x1.1 (Rep.row fun (i : Nat) => [Zi (It.kind (It.int (List.getD l i (0 : Int)))), Zi (It.num (It.int (List.getD l i (0 : Int)))), AV.isl (1) (0) fun (i_1 x : Nat) => Zb (It.fb (It.int (List.getD l i (0 : Int))) i_1), AV.isl (4) (0) (It.row (It.int (List.getD l i (0 : Int))))]) (Rep.lst [[Zi 1, Zi (List.getD l (Int.toNat (↑(x1.1) : Int)) (0 : Int)), AV.nsl, AV.nsl]]) }])))) (.req ((x1.1 + 1) * 64 ≤ 140737488355328) (.dc (true) 98 ([AV.agg [Zi 3, Zi 0, AV.nsl, AV.isl (4) (x1.1 + 1) fun (r k : Nat) => mixA (Nat.blt (r + 0) x1.1) (atL [Zi (It.kind (It.int (List.getD l (r + 0) (0 : Int)))), Zi (It.num (It.int (List.getD l (r + 0) (0 : Int)))), AV.isl (1) (0) fun (i x : Nat) => Zb (It.fb (It.int (List.getD l (r + 0) (0 : Int))) i), AV.isl (4) (0) (It.row (It.int (List.getD l (r + 0) (0 : Int))))] k) (atL (List.getD [[Zi 1, Zi x, AV.nsl, AV.nsl]] (r + 0 - x1.1) []) k)]]) (il IntKind.u8 E) (.sc (true) 97 ([AV.str { data := #[(115 : UInt8), (112 : UInt8), (101 : UInt8), (99 : UInt8), (105 : UInt8), (101 : UInt8), (47 : UInt8), (97 : UInt8), (99 : UInt8), (99 : UInt8), (111 : UInt8), (117 : UInt8), (110 : UInt8), (116 : UInt8)] }, AV.isl (1) (List.length E) fun (i x : Nat) => Zb (List.getD E i (0 : Int))]) (AV.agg (u8c D)) (.sc (true) 76 ([AV.agg (u8c D)]) (AV.str (bs H)) (.req ((0 : Int) ≤ (16 : Int) ∧ (16 : Int) ≤ (↑(ByteArray.size (bs H)) : Int)) (.out (AV.str (ByteArray.extract (bs H) (0) (16))) [] (AV.str (bs (List.take (16 : Nat) H))) []))))))))))
    (by kernel_rfl) ?_
  refine k_dc (c1) ?_
  refine k_loop (fun _ hs => hs.le (by repeat' (first | exact trivial | (first | exact Ent.refl _ | exact inc_ent (by omega) | exact Ent.nil rfl | exact Ent.of_eq (congrArg (AV.osl _ _ _) (by first | omega | (dsimp only; omega))) | exact Ent.of_eq (congrArg (AV.int _) (by first | omega | (dsimp only; omega)))) | refine And.intro ?_ ?_)) (by repeat' (first | exact trivial | (first | exact ObEnt.refl _ | exact ObEnt.junk | exact ObEnt.zero | exact ObEnt.push rfl rfl | exact ObEnt.pushRow rfl | exact ObEnt.len (by omega) | exact ObEnt.row (by repeat' (first | exact trivial | (first | exact Ent.refl _ | exact inc_ent (by omega) | exact Ent.nil rfl | exact Ent.of_eq (congrArg (AV.osl _ _ _) (by first | omega | (dsimp only; omega))) | exact Ent.of_eq (congrArg (AV.int _) (by first | omega | (dsimp only; omega)))) | refine And.intro ?_ ?_))) | refine And.intro ?_ ?_))) (fun x1 => ?_)
  try (have q1 := x1.2; dsimp only at q1)
  refine k_br (fun h2 => ?_) (fun h2 => ?_)
  · have g2 := cnd_dec_t h2
    refine k_req (by first | omega | (simp only [Int.toNat_natCast]; omega)) ?_
    refine k_req (by first | omega | (simp only [Int.toNat_natCast]; omega)) ?_
    exact k_again (⟨x1.1 + 1, by omega⟩) (fun _ hs => hs.le (by repeat' (first | exact trivial | (first | exact Ent.refl _ | exact inc_ent (by omega) | exact Ent.nil rfl | exact Ent.of_eq (congrArg (AV.osl _ _ _) (by first | omega | (dsimp only; omega))) | exact Ent.of_eq (congrArg (AV.int _) (by first | omega | (dsimp only; omega)))) | refine And.intro ?_ ?_)) (⟨by first | exact ObEnt.refl _ | exact ObEnt.junk | exact ObEnt.zero | exact ObEnt.push rfl rfl | exact ObEnt.pushRow rfl | exact ObEnt.len (by omega) | exact ObEnt.row (by repeat' (first | exact trivial | (first | exact Ent.refl _ | exact inc_ent (by omega) | exact Ent.nil rfl | exact Ent.of_eq (congrArg (AV.osl _ _ _) (by first | omega | (dsimp only; omega))) | exact Ent.of_eq (congrArg (AV.int _) (by first | omega | (dsimp only; omega)))) | refine And.intro ?_ ?_)), int_push rfl rfl, trivial⟩)) (by first | omega | (dsimp only; omega) | (simp; omega))
  · have g2 := cnd_dec_f h2
    refine k_req (by first | omega | (simp only [Int.toNat_natCast]; omega)) ?_
    refine k_dc (c3 (x1.1) (by first | assumption | omega)) ?_
    refine k_sc (c4) ?_
    refine k_sc (c5) ?_
    refine k_req (by first | omega | (simp only [Int.toNat_natCast]; omega)) ?_
    exact k_out (Ent.of_eq (congrArg AV.str (ext16 H)))

theorem rname_c (b : Bas) (x : Int) : Pure Tryz.prog gl0 59 [b.av, .int .i64 x] (.str (bs (namS b x))) := by
  rw [namS_eq]
  exact rname_w b x _ [b.gr.p, b.gr.q, b.gr.g, b.g1, b.g2, b.h] (namI b x).enc _ _ tagS (hexF_len _ _) rfl ((rnums_c b).ent (il_rows rfl rfl))
    (fun n hn => (renc_c (namI b x) (by rw [namI_len]; decide)).via (args := [intsX [b.gr.p, b.gr.q, b.gr.g, b.g1, b.g2, b.h] x n]) ⟨ints_ent hn, trivial⟩)
    (rtagged_c "specie/account".toUTF8 (by decide +kernel) (fun i => (namI b x).enc.getD i 0) (namI b x).enc.length (by rw [namI_len]; decide) (It.enc_by (namI_okB b x))) (rhex_c (tagI "specie/account".toUTF8 (namI b x)) (tagI_by _ _ _))

def namV (b : Bas) (x : Int) : Str := if namE b x = 0 then namS b x else []
theorem namV_0 {b : Bas} {x : Int} (h : namE b x = 0) : namV b x = namS b x := if_pos h
theorem namV_le (b : Bas) (x : Int) : (namV b x).length ≤ 16 := by
  unfold namV; split
  · rw [namS_len]; decide
  · exact Nat.zero_le _
theorem aname_c (b : Bas) (x : Int) (hw : b.gr.W) : Pure Tryz.prog gl0 52 [b.av, .int .i64 x] (.tup [.str (bs (namV b x)), .int .i64 (namE b x)]) := by
  by_cases h : namE b x = 0
  · rw [namV_0 h, h]; exact aname_ok b x hw h
  · rw [show namV b x = [] from if_neg h]; exact aname_no b x hw h

end Go.Proofs.YtbmdmoknnlhdoaaGreatDoor

namespace Go.Proofs.YtbmdmoknnlhdoaaGreatDoor.L
open Go Go.Am Go.Sp Go.Lib Go.RowKit
set_option maxRecDepth 100000

def gl2 (m : GP) : Globs := glU glJ (gl0 m)
theorem gl_dis (m : GP) : ∀ g, glJ g ≠ none → gl0 m g = none := fun g h => by
  rcases glJ_mem h with rfl | rfl | rfl | rfl <;> rfl
theorem upJ {m : GP} {f : FuncId} {args : List AV} {r : AV} (h : Am.Pure Tryz.prog glJ f args r) : Am.Pure Tryz.prog (gl2 m) f args r := up_l h
theorem upL {m : GP} {f : FuncId} {args : List AV} {r : AV} (h : Am.Pure Tryz.prog (gl0 m) f args r) : Am.Pure Tryz.prog (gl2 m) f args r := up_r (gl_dis m) h

theorem errW_g (m : GP) : Gives Tryz.prog (gl0 m) 86 [] [.str (bs errS)] (.osl 0 1 0 20) [some ⟨1, 20, true, .row fun i => [.str (bs (errW.getD i []))]⟩] :=
  fields_g m errS errW _ (by decide +kernel) (by decide +kernel) (by decide +kernel) (fun i hi => rfl)
theorem errorWord_c (m : GP) (e : Int) (h : 1 ≤ e ∧ e ≤ 20) : Pure Tryz.prog (gl0 m) 51 [.int .i64 e] (.str (bs (errW.getD (e - 1).toNat []))) := by
  have c1 := errW_g m
  have e1 := wI (n := e - 1) (by omega) (by omega)
  refine pure_sk (own := owF) Tryz.func51 (by kernel_rfl) mixed (by kernel_rfl)
    (.gc 86 ([]) ([AV.str { data := #[(97 : UInt8), (114 : UInt8), (103 : UInt8), (117 : UInt8), (109 : UInt8), (101 : UInt8), (110 : UInt8), (116 : UInt8), (32 : UInt8), (114 : UInt8), (97 : UInt8), (110 : UInt8), (103 : UInt8), (101 : UInt8), (32 : UInt8), (102 : UInt8), (111 : UInt8), (114 : UInt8), (109 : UInt8), (32 : UInt8), (101 : UInt8), (110 : UInt8), (100 : UInt8), (32 : UInt8), (102 : UInt8), (117 : UInt8), (108 : UInt8), (108 : UInt8), (32 : UInt8), (115 : UInt8), (116 : UInt8), (97 : UInt8), (116 : UInt8), (101 : UInt8), (32 : UInt8), (110 : UInt8), (111 : UInt8), (110 : UInt8), (101 : UInt8), (32 : UInt8), (116 : UInt8), (119 : UInt8), (105 : UInt8), (99 : UInt8), (101 : UInt8), (32 : UInt8), (98 : UInt8), (105 : UInt8), (103 : UInt8), (32 : UInt8), (122 : UInt8), (101 : UInt8), (114 : UInt8), (111 : UInt8), (32 : UInt8), (112 : UInt8), (114 : UInt8), (111 : UInt8), (111 : UInt8), (102 : UInt8), (32 : UInt8), (115 : UInt8), (105 : UInt8), (103 : UInt8), (110 : UInt8), (97 : UInt8), (116 : UInt8), (117 : UInt8), (114 : UInt8), (101 : UInt8), (32 : UInt8), (115 : UInt8), (117 : UInt8), (109 : UInt8), (32 : UInt8), (115 : UInt8), (101 : UInt8), (113 : UInt8), (117 : UInt8), (101 : UInt8), (110 : UInt8), (99 : UInt8), (101 : UInt8), (32 : UInt8), (116 : UInt8), (105 : UInt8), (109 : UInt8), (101 : UInt8), (32 : UInt8), (100 : UInt8), (101 : UInt8), (110 : UInt8), (105 : UInt8), (101 : UInt8), (100 : UInt8), (32 : UInt8), (102 : UInt8), (117 : UInt8), (110 : UInt8), (100 : UInt8), (115 : UInt8), (32 : UInt8), (107 : UInt8), (101 : UInt8), (121 : UInt8), (32 : UInt8), (99 : UInt8), (114 : UInt8), (97 : UInt8), (115 : UInt8), (104 : UInt8), (32 : UInt8), (115 : UInt8), (97 : UInt8), (109 : UInt8), (101 : UInt8)] }]) (AV.osl (0 : Nat) (1 : Nat) (0 : Nat) (20 : Nat)) ([some { es := (1 : Nat), n := (20 : Nat), mu := true, f := Rep.row fun (i : Nat) => [AV.str (bs (List.getD errW i []))] }]) (.req ((0 : Int) ≤ IntKind.wrap IntKind.i64 (e - (1 : Int)) ∧ IntKind.wrap IntKind.i64 (e - (1 : Int)) < (↑(20) : Int)) (.out (AV.str (bs (List.getD errW (Int.toNat (IntKind.wrap IntKind.i64 (e - (1 : Int))) + 0) []))) [] (AV.str (bs (List.getD errW (Int.toNat (e - (1 : Int))) []))) [])))
    (by kernel_rfl) ?_
  refine k_gc (c1) ?_
  refine k_req (by first | omega | (simp only [Int.toNat_natCast]; omega)) ?_
  exact k_out (Ent.of_eq (by first | rfl | simp_all))
theorem rerr_1 (m : GP) : Pure Tryz.prog (gl0 m) 55 [.int .i64 1] (.str (bs [97, 114, 103, 117, 109, 101, 110, 116])) := by
  refine pure_sk (own := ow0) Tryz.func55 (by kernel_rfl) mixed (by kernel_rfl)
    (.req ((0 : Int) ≤ (1 : Int) ∧ (1 : Int) < (↑(21) : Int)) (.out (AV.str { data := #[(97 : UInt8), (114 : UInt8), (103 : UInt8), (117 : UInt8), (109 : UInt8), (101 : UInt8), (110 : UInt8), (116 : UInt8)] }) [] (AV.str (bs [(97 : UInt8), (114 : UInt8), (103 : UInt8), (117 : UInt8), (109 : UInt8), (101 : UInt8), (110 : UInt8), (116 : UInt8)])) []))
    (by kernel_rfl) ?_
  refine k_req (by first | omega | (simp only [Int.toNat_natCast]; omega)) ?_
  exact k_out (Ent.refl _)

theorem rerr_2 (m : GP) : Pure Tryz.prog (gl0 m) 55 [.int .i64 2] (.str (bs [114, 97, 110, 103, 101])) := by
  refine pure_sk (own := ow0) Tryz.func55 (by kernel_rfl) mixed (by kernel_rfl)
    (.req ((0 : Int) ≤ (2 : Int) ∧ (2 : Int) < (↑(21) : Int)) (.out (AV.str { data := #[(114 : UInt8), (97 : UInt8), (110 : UInt8), (103 : UInt8), (101 : UInt8)] }) [] (AV.str (bs [(114 : UInt8), (97 : UInt8), (110 : UInt8), (103 : UInt8), (101 : UInt8)])) []))
    (by kernel_rfl) ?_
  refine k_req (by first | omega | (simp only [Int.toNat_natCast]; omega)) ?_
  exact k_out (Ent.refl _)

theorem rerr_3 (m : GP) : Pure Tryz.prog (gl0 m) 55 [.int .i64 3] (.str (bs [102, 111, 114, 109])) := by
  refine pure_sk (own := ow0) Tryz.func55 (by kernel_rfl) mixed (by kernel_rfl)
    (.req ((0 : Int) ≤ (3 : Int) ∧ (3 : Int) < (↑(21) : Int)) (.out (AV.str { data := #[(102 : UInt8), (111 : UInt8), (114 : UInt8), (109 : UInt8)] }) [] (AV.str (bs [(102 : UInt8), (111 : UInt8), (114 : UInt8), (109 : UInt8)])) []))
    (by kernel_rfl) ?_
  refine k_req (by first | omega | (simp only [Int.toNat_natCast]; omega)) ?_
  exact k_out (Ent.refl _)

theorem rerr_4 (m : GP) : Pure Tryz.prog (gl0 m) 55 [.int .i64 4] (.str (bs [101, 110, 100])) := by
  refine pure_sk (own := ow0) Tryz.func55 (by kernel_rfl) mixed (by kernel_rfl)
    (.req ((0 : Int) ≤ (4 : Int) ∧ (4 : Int) < (↑(21) : Int)) (.out (AV.str { data := #[(101 : UInt8), (110 : UInt8), (100 : UInt8)] }) [] (AV.str (bs [(101 : UInt8), (110 : UInt8), (100 : UInt8)])) []))
    (by kernel_rfl) ?_
  refine k_req (by first | omega | (simp only [Int.toNat_natCast]; omega)) ?_
  exact k_out (Ent.refl _)

theorem rerr_5 (m : GP) : Pure Tryz.prog (gl0 m) 55 [.int .i64 5] (.str (bs [102, 117, 108, 108])) := by
  refine pure_sk (own := ow0) Tryz.func55 (by kernel_rfl) mixed (by kernel_rfl)
    (.req ((0 : Int) ≤ (5 : Int) ∧ (5 : Int) < (↑(21) : Int)) (.out (AV.str { data := #[(102 : UInt8), (117 : UInt8), (108 : UInt8), (108 : UInt8)] }) [] (AV.str (bs [(102 : UInt8), (117 : UInt8), (108 : UInt8), (108 : UInt8)])) []))
    (by kernel_rfl) ?_
  refine k_req (by first | omega | (simp only [Int.toNat_natCast]; omega)) ?_
  exact k_out (Ent.refl _)

theorem rerr_6 (m : GP) : Pure Tryz.prog (gl0 m) 55 [.int .i64 6] (.str (bs [115, 116, 97, 116, 101])) := by
  refine pure_sk (own := ow0) Tryz.func55 (by kernel_rfl) mixed (by kernel_rfl)
    (.req ((0 : Int) ≤ (6 : Int) ∧ (6 : Int) < (↑(21) : Int)) (.out (AV.str { data := #[(115 : UInt8), (116 : UInt8), (97 : UInt8), (116 : UInt8), (101 : UInt8)] }) [] (AV.str (bs [(115 : UInt8), (116 : UInt8), (97 : UInt8), (116 : UInt8), (101 : UInt8)])) []))
    (by kernel_rfl) ?_
  refine k_req (by first | omega | (simp only [Int.toNat_natCast]; omega)) ?_
  exact k_out (Ent.refl _)

theorem rerr_7 (m : GP) : Pure Tryz.prog (gl0 m) 55 [.int .i64 7] (.str (bs [110, 111, 110, 101])) := by
  refine pure_sk (own := ow0) Tryz.func55 (by kernel_rfl) mixed (by kernel_rfl)
    (.req ((0 : Int) ≤ (7 : Int) ∧ (7 : Int) < (↑(21) : Int)) (.out (AV.str { data := #[(110 : UInt8), (111 : UInt8), (110 : UInt8), (101 : UInt8)] }) [] (AV.str (bs [(110 : UInt8), (111 : UInt8), (110 : UInt8), (101 : UInt8)])) []))
    (by kernel_rfl) ?_
  refine k_req (by first | omega | (simp only [Int.toNat_natCast]; omega)) ?_
  exact k_out (Ent.refl _)

theorem rerr_8 (m : GP) : Pure Tryz.prog (gl0 m) 55 [.int .i64 8] (.str (bs [116, 119, 105, 99, 101])) := by
  refine pure_sk (own := ow0) Tryz.func55 (by kernel_rfl) mixed (by kernel_rfl)
    (.req ((0 : Int) ≤ (8 : Int) ∧ (8 : Int) < (↑(21) : Int)) (.out (AV.str { data := #[(116 : UInt8), (119 : UInt8), (105 : UInt8), (99 : UInt8), (101 : UInt8)] }) [] (AV.str (bs [(116 : UInt8), (119 : UInt8), (105 : UInt8), (99 : UInt8), (101 : UInt8)])) []))
    (by kernel_rfl) ?_
  refine k_req (by first | omega | (simp only [Int.toNat_natCast]; omega)) ?_
  exact k_out (Ent.refl _)

theorem rerr_9 (m : GP) : Pure Tryz.prog (gl0 m) 55 [.int .i64 9] (.str (bs [98, 105, 103])) := by
  refine pure_sk (own := ow0) Tryz.func55 (by kernel_rfl) mixed (by kernel_rfl)
    (.req ((0 : Int) ≤ (9 : Int) ∧ (9 : Int) < (↑(21) : Int)) (.out (AV.str { data := #[(98 : UInt8), (105 : UInt8), (103 : UInt8)] }) [] (AV.str (bs [(98 : UInt8), (105 : UInt8), (103 : UInt8)])) []))
    (by kernel_rfl) ?_
  refine k_req (by first | omega | (simp only [Int.toNat_natCast]; omega)) ?_
  exact k_out (Ent.refl _)

theorem rerr_10 (m : GP) : Pure Tryz.prog (gl0 m) 55 [.int .i64 10] (.str (bs [122, 101, 114, 111])) := by
  refine pure_sk (own := ow0) Tryz.func55 (by kernel_rfl) mixed (by kernel_rfl)
    (.req ((0 : Int) ≤ (10 : Int) ∧ (10 : Int) < (↑(21) : Int)) (.out (AV.str { data := #[(122 : UInt8), (101 : UInt8), (114 : UInt8), (111 : UInt8)] }) [] (AV.str (bs [(122 : UInt8), (101 : UInt8), (114 : UInt8), (111 : UInt8)])) []))
    (by kernel_rfl) ?_
  refine k_req (by first | omega | (simp only [Int.toNat_natCast]; omega)) ?_
  exact k_out (Ent.refl _)

theorem rerr_11 (m : GP) : Pure Tryz.prog (gl0 m) 55 [.int .i64 11] (.str (bs [112, 114, 111, 111, 102])) := by
  refine pure_sk (own := ow0) Tryz.func55 (by kernel_rfl) mixed (by kernel_rfl)
    (.req ((0 : Int) ≤ (11 : Int) ∧ (11 : Int) < (↑(21) : Int)) (.out (AV.str { data := #[(112 : UInt8), (114 : UInt8), (111 : UInt8), (111 : UInt8), (102 : UInt8)] }) [] (AV.str (bs [(112 : UInt8), (114 : UInt8), (111 : UInt8), (111 : UInt8), (102 : UInt8)])) []))
    (by kernel_rfl) ?_
  refine k_req (by first | omega | (simp only [Int.toNat_natCast]; omega)) ?_
  exact k_out (Ent.refl _)

theorem rerr_12 (m : GP) : Pure Tryz.prog (gl0 m) 55 [.int .i64 12] (.str (bs [115, 105, 103, 110, 97, 116, 117, 114, 101])) := by
  refine pure_sk (own := ow0) Tryz.func55 (by kernel_rfl) mixed (by kernel_rfl)
    (.req ((0 : Int) ≤ (12 : Int) ∧ (12 : Int) < (↑(21) : Int)) (.out (AV.str { data := #[(115 : UInt8), (105 : UInt8), (103 : UInt8), (110 : UInt8), (97 : UInt8), (116 : UInt8), (117 : UInt8), (114 : UInt8), (101 : UInt8)] }) [] (AV.str (bs [(115 : UInt8), (105 : UInt8), (103 : UInt8), (110 : UInt8), (97 : UInt8), (116 : UInt8), (117 : UInt8), (114 : UInt8), (101 : UInt8)])) []))
    (by kernel_rfl) ?_
  refine k_req (by first | omega | (simp only [Int.toNat_natCast]; omega)) ?_
  exact k_out (Ent.refl _)

theorem rerr_13 (m : GP) : Pure Tryz.prog (gl0 m) 55 [.int .i64 13] (.str (bs [115, 117, 109])) := by
  refine pure_sk (own := ow0) Tryz.func55 (by kernel_rfl) mixed (by kernel_rfl)
    (.req ((0 : Int) ≤ (13 : Int) ∧ (13 : Int) < (↑(21) : Int)) (.out (AV.str { data := #[(115 : UInt8), (117 : UInt8), (109 : UInt8)] }) [] (AV.str (bs [(115 : UInt8), (117 : UInt8), (109 : UInt8)])) []))
    (by kernel_rfl) ?_
  refine k_req (by first | omega | (simp only [Int.toNat_natCast]; omega)) ?_
  exact k_out (Ent.refl _)

theorem rerr_14 (m : GP) : Pure Tryz.prog (gl0 m) 55 [.int .i64 14] (.str (bs [115, 101, 113, 117, 101, 110, 99, 101])) := by
  refine pure_sk (own := ow0) Tryz.func55 (by kernel_rfl) mixed (by kernel_rfl)
    (.req ((0 : Int) ≤ (14 : Int) ∧ (14 : Int) < (↑(21) : Int)) (.out (AV.str { data := #[(115 : UInt8), (101 : UInt8), (113 : UInt8), (117 : UInt8), (101 : UInt8), (110 : UInt8), (99 : UInt8), (101 : UInt8)] }) [] (AV.str (bs [(115 : UInt8), (101 : UInt8), (113 : UInt8), (117 : UInt8), (101 : UInt8), (110 : UInt8), (99 : UInt8), (101 : UInt8)])) []))
    (by kernel_rfl) ?_
  refine k_req (by first | omega | (simp only [Int.toNat_natCast]; omega)) ?_
  exact k_out (Ent.refl _)

theorem rerr_15 (m : GP) : Pure Tryz.prog (gl0 m) 55 [.int .i64 15] (.str (bs [116, 105, 109, 101])) := by
  refine pure_sk (own := ow0) Tryz.func55 (by kernel_rfl) mixed (by kernel_rfl)
    (.req ((0 : Int) ≤ (15 : Int) ∧ (15 : Int) < (↑(21) : Int)) (.out (AV.str { data := #[(116 : UInt8), (105 : UInt8), (109 : UInt8), (101 : UInt8)] }) [] (AV.str (bs [(116 : UInt8), (105 : UInt8), (109 : UInt8), (101 : UInt8)])) []))
    (by kernel_rfl) ?_
  refine k_req (by first | omega | (simp only [Int.toNat_natCast]; omega)) ?_
  exact k_out (Ent.refl _)

theorem rerr_16 (m : GP) : Pure Tryz.prog (gl0 m) 55 [.int .i64 16] (.str (bs [100, 101, 110, 105, 101, 100])) := by
  refine pure_sk (own := ow0) Tryz.func55 (by kernel_rfl) mixed (by kernel_rfl)
    (.req ((0 : Int) ≤ (16 : Int) ∧ (16 : Int) < (↑(21) : Int)) (.out (AV.str { data := #[(100 : UInt8), (101 : UInt8), (110 : UInt8), (105 : UInt8), (101 : UInt8), (100 : UInt8)] }) [] (AV.str (bs [(100 : UInt8), (101 : UInt8), (110 : UInt8), (105 : UInt8), (101 : UInt8), (100 : UInt8)])) []))
    (by kernel_rfl) ?_
  refine k_req (by first | omega | (simp only [Int.toNat_natCast]; omega)) ?_
  exact k_out (Ent.refl _)

theorem rerr_17 (m : GP) : Pure Tryz.prog (gl0 m) 55 [.int .i64 17] (.str (bs [102, 117, 110, 100, 115])) := by
  refine pure_sk (own := ow0) Tryz.func55 (by kernel_rfl) mixed (by kernel_rfl)
    (.req ((0 : Int) ≤ (17 : Int) ∧ (17 : Int) < (↑(21) : Int)) (.out (AV.str { data := #[(102 : UInt8), (117 : UInt8), (110 : UInt8), (100 : UInt8), (115 : UInt8)] }) [] (AV.str (bs [(102 : UInt8), (117 : UInt8), (110 : UInt8), (100 : UInt8), (115 : UInt8)])) []))
    (by kernel_rfl) ?_
  refine k_req (by first | omega | (simp only [Int.toNat_natCast]; omega)) ?_
  exact k_out (Ent.refl _)

theorem rerr_18 (m : GP) : Pure Tryz.prog (gl0 m) 55 [.int .i64 18] (.str (bs [107, 101, 121])) := by
  refine pure_sk (own := ow0) Tryz.func55 (by kernel_rfl) mixed (by kernel_rfl)
    (.req ((0 : Int) ≤ (18 : Int) ∧ (18 : Int) < (↑(21) : Int)) (.out (AV.str { data := #[(107 : UInt8), (101 : UInt8), (121 : UInt8)] }) [] (AV.str (bs [(107 : UInt8), (101 : UInt8), (121 : UInt8)])) []))
    (by kernel_rfl) ?_
  refine k_req (by first | omega | (simp only [Int.toNat_natCast]; omega)) ?_
  exact k_out (Ent.refl _)

theorem rerr_19 (m : GP) : Pure Tryz.prog (gl0 m) 55 [.int .i64 19] (.str (bs [99, 114, 97, 115, 104])) := by
  refine pure_sk (own := ow0) Tryz.func55 (by kernel_rfl) mixed (by kernel_rfl)
    (.req ((0 : Int) ≤ (19 : Int) ∧ (19 : Int) < (↑(21) : Int)) (.out (AV.str { data := #[(99 : UInt8), (114 : UInt8), (97 : UInt8), (115 : UInt8), (104 : UInt8)] }) [] (AV.str (bs [(99 : UInt8), (114 : UInt8), (97 : UInt8), (115 : UInt8), (104 : UInt8)])) []))
    (by kernel_rfl) ?_
  refine k_req (by first | omega | (simp only [Int.toNat_natCast]; omega)) ?_
  exact k_out (Ent.refl _)

theorem rerr_20 (m : GP) : Pure Tryz.prog (gl0 m) 55 [.int .i64 20] (.str (bs [115, 97, 109, 101])) := by
  refine pure_sk (own := ow0) Tryz.func55 (by kernel_rfl) mixed (by kernel_rfl)
    (.req ((0 : Int) ≤ (20 : Int) ∧ (20 : Int) < (↑(21) : Int)) (.out (AV.str { data := #[(115 : UInt8), (97 : UInt8), (109 : UInt8), (101 : UInt8)] }) [] (AV.str (bs [(115 : UInt8), (97 : UInt8), (109 : UInt8), (101 : UInt8)])) []))
    (by kernel_rfl) ?_
  refine k_req (by first | omega | (simp only [Int.toNat_natCast]; omega)) ?_
  exact k_out (Ent.refl _)

theorem rerr_c (m : GP) (e : Int) (h : 1 ≤ e ∧ e ≤ 20) : Pure Tryz.prog (gl0 m) 55 [.int .i64 e] (.str (bs (errW.getD (e - 1).toNat []))) := by
  have hc : e = 1 ∨ e = 2 ∨ e = 3 ∨ e = 4 ∨ e = 5 ∨ e = 6 ∨ e = 7 ∨ e = 8 ∨ e = 9 ∨ e = 10 ∨ e = 11 ∨ e = 12 ∨ e = 13 ∨ e = 14 ∨ e = 15 ∨ e = 16 ∨ e = 17 ∨ e = 18 ∨ e = 19 ∨ e = 20 := by omega
  rcases hc with rfl | rfl | rfl | rfl | rfl | rfl | rfl | rfl | rfl | rfl | rfl | rfl | rfl | rfl | rfl | rfl | rfl | rfl | rfl | rfl
  · exact rerr_1 m
  · exact rerr_2 m
  · exact rerr_3 m
  · exact rerr_4 m
  · exact rerr_5 m
  · exact rerr_6 m
  · exact rerr_7 m
  · exact rerr_8 m
  · exact rerr_9 m
  · exact rerr_10 m
  · exact rerr_11 m
  · exact rerr_12 m
  · exact rerr_13 m
  · exact rerr_14 m
  · exact rerr_15 m
  · exact rerr_16 m
  · exact rerr_17 m
  · exact rerr_18 m
  · exact rerr_19 m
  · exact rerr_20 m


abbrev kKM30 : List AV := [AV.nsl, AV.nsl, AV.nsl, Zi 0, AV.nsl, AV.nsl, AV.nsl, AV.nsl, AV.nsl, AV.nsl, Zi 0]
theorem text_no (m : GP) (a : Cmd) (ha : CmdR a) (h : ¬ wrB a = true) : Pure Tryz.prog (gl2 m) 50 [.agg a.cells] (.tup [.str (bs []), .int .i64 1]) := by
  have c1 := upL (text_c m a ha)
  rw [textF_eq, if_neg h] at c1
  exact c1
theorem text_y (m : GP) (a : Cmd) (ha : CmdR a) (h : wrB a = true) : Pure Tryz.prog (gl2 m) 50 [.agg a.cells] (.tup [.str (bs (textR a)), .int .i64 0]) := by
  have c1 := upL (text_c m a ha)
  rw [textF_eq, if_pos h] at c1
  exact c1
theorem line_no (m : GP) (b : Bas) (a : Cmd) (er amt : Int) (n : Nat) (key : Nat → Int) (ha : CmdR a) (hn : n ≤ 40) (h : ¬ wrB a = true) : Pure Tryz.prog (gl2 m) 19 [.agg (b.cells ++ [.nsl, .nsl, .nsl, .int .i64 0, .nsl, .nsl, .nsl, .nsl, .nsl, .nsl, .int .i64 0]), .agg (a.cells ++ [.int .i64 er, .int .i64 amt, .isl 1 n fun i _ => .int .i64 (key i)])] (.tup [.str (bs []), .int .i64 1]) := by
  have c1 := text_no m a ha h
  refine pure_sk (own := ow0) Tryz.func19 (by kernel_rfl) mixed (by kernel_rfl)
    (.sc (true) 50 ([AV.agg (Cmd.cells a)]) (AV.tup [AV.str (bs []), Zi 1]) (.tt (.out (AV.tup [AV.str { data := #[] }, Zi 1]) [] (AV.tup [AV.str (bs []), Zi 1]) [])))
    (by kernel_rfl) ?_
  refine k_sc (c1) ?_
  refine k_tt ?_
  exact k_out (Ent.of_eq (by first | rfl | simp_all))

theorem rline_no (m : GP) (b : Bas) (a : Cmd) (er amt : Int) (n : Nat) (key : Nat → Int) (hn : n ≤ 40) (h : ¬ wrB a = true) : Pure Tryz.prog (gl2 m) 20 [b.av, .agg (a.cells ++ [.int .i64 er, .int .i64 amt, .isl 1 n fun i _ => .int .i64 (key i)])] (.tup [.str (bs []), .int .i64 1]) := by
  have c1 := upL (rwrit_c m a)
  rw [show wrB a = false by simpa using h] at c1
  refine pure_sk (own := ow0) Tryz.func20 (by kernel_rfl) mixed (by kernel_rfl)
    (.sc (true) 53 ([AV.agg (Cmd.cells a)]) (AV.bool false) (.tt (.out (AV.tup [AV.str { data := #[] }, Zi 1]) [] (AV.tup [AV.str (bs []), Zi 1]) [])))
    (by kernel_rfl) ?_
  refine k_sc (c1) ?_
  refine k_tt ?_
  exact k_out (Ent.of_eq (by first | rfl | simp_all))

def prS (a : Cmd) (amt : Int) (n : Nat) : Str := stpB a amt ++ (if 0 < n then gyS else [])
theorem prS_le {a : Cmd} {amt : Int} {n : Nat} (h : (stpB a amt).length ≤ 125) : (prS a amt n).length ≤ 133 := by
  unfold prS; rw [List.length_append]
  split
  · have : gyS.length = 8 := rfl
    omega
  · simp; omega
theorem zL (l : List UInt8) : (ByteArray.mk l.toArray).size = l.length := rfl
theorem prS_end (b : Bas) (a : Cmd) (amt : Int) (n : Nat) (key : Nat → Int) : stpF b a amt key n = prS a amt n ++ nmF b key n := by
  unfold stpF prS
  by_cases h : n = 0
  · subst h; rw [if_pos rfl, if_neg (Nat.lt_irrefl 0)]; simp [nmF]
  · rw [if_neg h, if_pos (by omega)]
theorem prl_1 {b : Bas} {a : Cmd} {amt : Int} {n : Nat} {key : Nat → Int} (h : 0 < n) : bs (textR a) ++ (⟨#[58, 32, 111, 107, 32]⟩ ++ bs (itoa amt)) ++ ⟨#[44, 32, 103, 117, 105, 108, 116, 121]⟩ = bs (prS a amt n ++ nmF b key 0) := by
  show bs (textR a) ++ (bs [58, 32, 111, 107, 32] ++ bs (itoa amt)) ++ bs gyS = _
  rw [bs_app, bs_app, bs_app]
  unfold prS stpB; rw [if_pos h]; simp [nmF]
theorem prl_2 {b : Bas} {a : Cmd} {amt : Int} {n : Nat} {key : Nat → Int} (h : ¬ 0 < n) : bs (textR a) ++ (⟨#[58, 32, 111, 107, 32]⟩ ++ bs (itoa amt)) = bs (prS a amt n ++ nmF b key 0) := by
  show bs (textR a) ++ (bs [58, 32, 111, 107, 32] ++ bs (itoa amt)) = _
  rw [bs_app, bs_app]
  unfold prS stpB; rw [if_neg h]; simp [nmF]
theorem prl_3 {b : Bas} {a : Cmd} {amt : Int} {n : Nat} {key : Nat → Int} {k : Nat} (h : namE b (key k) = 0) : bs (prS a amt n ++ nmF b key k) ++ (⟨#[32]⟩ ++ bs (namV b (key k))) = bs (prS a amt n ++ nmF b key (k + 1)) := by
  show bs _ ++ (bs [32] ++ bs _) = _
  rw [bs_app, bs_app, namV_0 h, nmF]
  congr 1; simp
theorem line_y (m : GP) (b : Bas) (a : Cmd) (er amt : Int) (n : Nat) (key : Nat → Int) (hw : b.gr.W) (ha : CmdR a) (hamt : -9223372036854775808 ≤ amt ∧ amt ≤ 9223372036854775807) (hn : n ≤ 40) (h : wrB a = true) :
    Pure Tryz.prog (gl2 m) 19 [.agg (b.cells ++ [.nsl, .nsl, .nsl, .int .i64 0, .nsl, .nsl, .nsl, .nsl, .nsl, .nsl, .int .i64 0]), .agg (a.cells ++ [.int .i64 er, .int .i64 amt, .isl 1 n fun i _ => .int .i64 (key i)])] (.tup [.str (bs (lnV b a er amt n key)), .int .i64 (lnE b a er n key)]) := by
  have c1 := text_y m a ha h
  have c2 := fun h => upL (errorWord_c m er h)
  have c3 := upL (itoa_c m amt hamt)
  have c4 := fun i => upJ (m := m) (aname_c b (key i) hw)
  have t1 := textR_le a h
  have t2 := itoa_l20 hamt
  have t3 := errW_at (er - 1).toNat
  have t4 := fun i => namV_le b (key i)
  have t5 := nmF_len b key
  have t6 : (prS a amt n).length ≤ 133 := prS_le (stpB_le h hamt)
  have L1 := fun (hh : er < 0 ∨ er > 20) => ln_1 (b := b) (a := a) (er := er) (amt := amt) (n := n) (key := key) (fun h' => by omega)
  have L2 := fun (h1 : ¬ er < 0 ∧ ¬ er > 20) (h3 : ¬ er = 0) => ln_2 (b := b) (a := a) (er := er) (amt := amt) (n := n) (key := key) ⟨h, by omega, by omega⟩ h3
  have L3 := fun i (h3 : er = 0) (h0 : fbE b key i = 0) (h1 : ¬ namE b (key i) = 0) (hi : i < n) => ln_3 (amt := amt) h h3 h0 h1 hi
  have L4 := fun (h3 : er = 0) (h0 : fbE b key n = 0) => ln_4 (amt := amt) h h3 h0
  refine pure_sk (own := ow0) Tryz.func19 (by kernel_rfl) mixed (by kernel_rfl)
    (.sc (true) 50 ([AV.agg (Cmd.cells a)]) (AV.tup [AV.str (bs (textR a)), Zi 0]) (.br (decide (er < (0 : Int)) || decide (er > (20 : Int))) (.out (AV.tup [AV.str { data := #[] }, Zi 1]) [] (AV.tup [AV.str (bs (lnV b a er amt n key)), Zi (lnE b a er n key)]) []) (.br (er != (0 : Int)) (.req (ByteArray.size (bs (textR a)) + 2 ≤ 9223372036854775807) (.sc (true) 51 ([Zi er]) (AV.str (bs (List.getD errW (Int.toNat (er - (1 : Int))) []))) (.req (ByteArray.size (bs (textR a) ++ { data := #[(58 : UInt8), (32 : UInt8)] }) + ByteArray.size (bs (List.getD errW (Int.toNat (er - (1 : Int))) [])) ≤ 9223372036854775807) (.out (AV.tup [AV.str (bs (textR a) ++ { data := #[(58 : UInt8), (32 : UInt8)] } ++ bs (List.getD errW (Int.toNat (er - (1 : Int))) [])), Zi 0]) [] (AV.tup [AV.str (bs (lnV b a er amt n key)), Zi (lnE b a er n key)]) [])))) (.sc (true) 35 ([Zi amt]) (AV.str (bs (itoa amt))) (.req (5 + ByteArray.size (bs (itoa amt)) ≤ 9223372036854775807) (.req (ByteArray.size (bs (textR a)) + ByteArray.size ({ data := #[(58 : UInt8), (32 : UInt8), (111 : UInt8), (107 : UInt8), (32 : UInt8)] } ++ bs (itoa amt)) ≤ 9223372036854775807) (.br (decide ((↑n : Int) > (0 : Int))) (.req (ByteArray.size (bs (textR a) ++ ({ data := #[(58 : UInt8), (32 : UInt8), (111 : UInt8), (107 : UInt8), (32 : UInt8)] } ++ bs (itoa amt))) + 8 ≤ 9223372036854775807) (.loop ({ x : Nat // x ≤ n ∧ (fun (k : Nat) => fbE b key k = (0 : Int)) x }) (fun (x : { x : Nat // x ≤ n ∧ (fun (k : Nat) => fbE b key k = (0 : Int)) x }) => mkSt [2, 52, 53, 6, 54] [AV.own (0) (17) (0) (0) (17), AV.isl (1) n fun (i x : Nat) => Zi (key i), Zi (↑n : Int), AV.str (bs (prS a amt n ++ nmF b key (x.1))), Zi (↑(x.1) : Int)] [some { es := 17, n := 1, mu := true, f := Rep.lst [Bas.cells b ++ kKM30] }]) (fun (x : { x : Nat // x ≤ n ∧ (fun (k : Nat) => fbE b key k = (0 : Int)) x }) => n - x.1) (⟨(0 : Nat), ⟨Nat.zero_le n, rfl⟩⟩) ([2, 52, 53, 6, 54]) ([0]) ([AV.own (0) (17) (0) (0) (17), AV.isl (1) n fun (i x : Nat) => Zi (key i), Zi (↑n : Int), AV.str (bs (textR a) ++ ({ data := #[(58 : UInt8), (32 : UInt8), (111 : UInt8), (107 : UInt8), (32 : UInt8)] } ++ bs (itoa amt)) ++ { data := #[(44 : UInt8), (32 : UInt8), (103 : UInt8), (117 : UInt8), (105 : UInt8), (108 : UInt8), (116 : UInt8), (121 : UInt8)] }), Zi 0]) ([some { es := 17, n := 1, mu := true, f := Rep.lst [Bas.cells b ++ kKM30] }]) (fun x13 => (.br (decide ((↑x13.1 : Int) < (↑n : Int))) (.req ((0 : Int) ≤ (↑x13.1 : Int) ∧ (↑x13.1 : Int) < (↑n : Int)) (.sc (true) 52 ([AV.agg (Bas.cells b), Zi (key (Int.toNat (↑x13.1 : Int)))]) (AV.tup [AV.str (bs (namV b (key (Int.toNat (↑x13.1 : Int))))), Zi (namE b (key (Int.toNat (↑x13.1 : Int))))]) (.br (namE b (key (Int.toNat (↑x13.1 : Int))) != (0 : Int)) (.out (AV.tup [AV.str { data := #[] }, Zi (namE b (key (Int.toNat (↑x13.1 : Int))))]) [] (AV.tup [AV.str (bs (lnV b a er amt n key)), Zi (lnE b a er n key)]) []) (.req (1 + ByteArray.size (bs (namV b (key (Int.toNat (↑x13.1 : Int))))) ≤ 9223372036854775807) (.req (ByteArray.size (bs (prS a amt n ++ nmF b key x13.1)) + ByteArray.size ({ data := #[(32 : UInt8)] } ++ bs (namV b (key (Int.toNat (↑x13.1 : Int))))) ≤ 9223372036854775807) (.again (Again (0) (fun (x : { x : Nat // x ≤ n ∧ (fun (k : Nat) => fbE b key k = (0 : Int)) x }) => mkSt [2, 52, 53, 6, 54] [AV.own (0) (17) (0) (0) (17), AV.isl (1) n fun (i x : Nat) => Zi (key i), Zi (↑n : Int), AV.str (bs (prS a amt n ++ nmF b key (x.1))), Zi (↑(x.1) : Int)] [some { es := 17, n := 1, mu := true, f := Rep.lst [Bas.cells b ++ kKM30] }]) (fun (x : { x : Nat // x ≤ n ∧ (fun (k : Nat) => fbE b key k = (0 : Int)) x }) => n - x.1) x13) ([2, 52, 53, 6, 54]) ([0]) ([AV.own (0) (17) (0) (0) (17), AV.isl (1) n fun (i x : Nat) => Zi (key i), Zi (↑n : Int), AV.str (bs (prS a amt n ++ nmF b key x13.1) ++ ({ data := #[(32 : UInt8)] } ++ bs (namV b (key (Int.toNat (↑x13.1 : Int)))))), Zi (IntKind.wrap IntKind.i64 ((↑x13.1 : Int) + (1 : Int)))]) ([some { es := 17, n := 1, mu := true, f := Rep.lst [Bas.cells b ++ kKM30] }]))))))) (.out (AV.tup [AV.str (bs (prS a amt n ++ nmF b key x13.1)), Zi 0]) [] (AV.tup [AV.str (bs (lnV b a er amt n key)), Zi (lnE b a er n key)]) []))))) (.loop ({ x : Nat // x ≤ n ∧ (fun (k : Nat) => fbE b key k = (0 : Int)) x }) (fun (x : { x : Nat // x ≤ n ∧ (fun (k : Nat) => fbE b key k = (0 : Int)) x }) => mkSt [2, 52, 53, 6, 54] [AV.own (0) (17) (0) (0) (17), AV.isl (1) n fun (i x : Nat) => Zi (key i), Zi (↑n : Int), AV.str (bs (prS a amt n ++ nmF b key (x.1))), Zi (↑(x.1) : Int)] [some { es := 17, n := 1, mu := true, f := Rep.lst [Bas.cells b ++ kKM30] }]) (fun (x : { x : Nat // x ≤ n ∧ (fun (k : Nat) => fbE b key k = (0 : Int)) x }) => n - x.1) (⟨(0 : Nat), ⟨Nat.zero_le n, rfl⟩⟩) ([2, 52, 53, 6, 54]) ([0]) ([AV.own (0) (17) (0) (0) (17), AV.isl (1) n fun (i x : Nat) => Zi (key i), Zi (↑n : Int), AV.str (bs (textR a) ++ ({ data := #[(58 : UInt8), (32 : UInt8), (111 : UInt8), (107 : UInt8), (32 : UInt8)] } ++ bs (itoa amt))), Zi 0]) ([some { es := 17, n := 1, mu := true, f := Rep.lst [Bas.cells b ++ kKM30] }]) (fun x23 => (.br (decide ((↑x23.1 : Int) < (↑n : Int))) (.req ((0 : Int) ≤ (↑x23.1 : Int) ∧ (↑x23.1 : Int) < (↑n : Int)) (.sc (true) 52 ([AV.agg (Bas.cells b), Zi (key (Int.toNat (↑x23.1 : Int)))]) (AV.tup [AV.str (bs (namV b (key (Int.toNat (↑x23.1 : Int))))), Zi (namE b (key (Int.toNat (↑x23.1 : Int))))]) (.br (namE b (key (Int.toNat (↑x23.1 : Int))) != (0 : Int)) (.out (AV.tup [AV.str { data := #[] }, Zi (namE b (key (Int.toNat (↑x23.1 : Int))))]) [] (AV.tup [AV.str (bs (lnV b a er amt n key)), Zi (lnE b a er n key)]) []) (.req (1 + ByteArray.size (bs (namV b (key (Int.toNat (↑x23.1 : Int))))) ≤ 9223372036854775807) (.req (ByteArray.size (bs (prS a amt n ++ nmF b key x23.1)) + ByteArray.size ({ data := #[(32 : UInt8)] } ++ bs (namV b (key (Int.toNat (↑x23.1 : Int))))) ≤ 9223372036854775807) (.again (Again (0) (fun (x : { x : Nat // x ≤ n ∧ (fun (k : Nat) => fbE b key k = (0 : Int)) x }) => mkSt [2, 52, 53, 6, 54] [AV.own (0) (17) (0) (0) (17), AV.isl (1) n fun (i x : Nat) => Zi (key i), Zi (↑n : Int), AV.str (bs (prS a amt n ++ nmF b key (x.1))), Zi (↑(x.1) : Int)] [some { es := 17, n := 1, mu := true, f := Rep.lst [Bas.cells b ++ kKM30] }]) (fun (x : { x : Nat // x ≤ n ∧ (fun (k : Nat) => fbE b key k = (0 : Int)) x }) => n - x.1) x23) ([2, 52, 53, 6, 54]) ([0]) ([AV.own (0) (17) (0) (0) (17), AV.isl (1) n fun (i x : Nat) => Zi (key i), Zi (↑n : Int), AV.str (bs (prS a amt n ++ nmF b key x23.1) ++ ({ data := #[(32 : UInt8)] } ++ bs (namV b (key (Int.toNat (↑x23.1 : Int)))))), Zi (IntKind.wrap IntKind.i64 ((↑x23.1 : Int) + (1 : Int)))]) ([some { es := 17, n := 1, mu := true, f := Rep.lst [Bas.cells b ++ kKM30] }]))))))) (.out (AV.tup [AV.str (bs (prS a amt n ++ nmF b key x23.1)), Zi 0]) [] (AV.tup [AV.str (bs (lnV b a er amt n key)), Zi (lnE b a er n key)]) [])))))))))))
    (by kernel_rfl) ?_
  refine k_sc (c1) ?_
  refine k_br (fun h1 => ?_) (fun h1 => ?_)
  · have g1 := (cnd_or_t cnd_dec_t cnd_dec_t) h1
    exact k_out ((by rw [(L1 g1).1, (L1 g1).2]; exact Ent.refl _))
  · have g1 := (cnd_or_f cnd_dec_f cnd_dec_f) h1
    refine k_br (fun h3 => ?_) (fun h3 => ?_)
    · have g3 := cnd_bne_t h3
      refine k_req (by first | omega | (simp only [Int.toNat_natCast, ByteArray.size_append, bs_size, zL, List.length_cons, List.length_nil, List.length_append]; first | omega | (have q1 := t4 x13.1; have q2 := t5 x13.1; omega) | (have q1 := t4 x23.1; have q2 := t5 x23.1; omega))) ?_
      refine k_sc (c2 (by first | assumption | omega)) ?_
      refine k_req (by first | omega | (simp only [Int.toNat_natCast, ByteArray.size_append, bs_size, zL, List.length_cons, List.length_nil, List.length_append]; first | omega | (have q1 := t4 x13.1; have q2 := t5 x13.1; omega) | (have q1 := t4 x23.1; have q2 := t5 x23.1; omega))) ?_
      exact k_out ((by rw [(L2 g1 g3).1, (L2 g1 g3).2]; exact Ent.of_eq (by rw [← bs_app, ← bs_app, ByteArray.append_assoc]; try rfl)))
    · have g3 := cnd_bne_f h3
      refine k_sc (c3) ?_
      refine k_req (by first | omega | (simp only [Int.toNat_natCast, ByteArray.size_append, bs_size, zL, List.length_cons, List.length_nil, List.length_append]; first | omega | (have q1 := t4 x13.1; have q2 := t5 x13.1; omega) | (have q1 := t4 x23.1; have q2 := t5 x23.1; omega))) ?_
      refine k_req (by first | omega | (simp only [Int.toNat_natCast, ByteArray.size_append, bs_size, zL, List.length_cons, List.length_nil, List.length_append]; first | omega | (have q1 := t4 x13.1; have q2 := t5 x13.1; omega) | (have q1 := t4 x23.1; have q2 := t5 x23.1; omega))) ?_
      refine k_br (fun h11 => ?_) (fun h11 => ?_)
      · have g11 := cnd_dec_t h11
        refine k_req (by first | omega | (simp only [Int.toNat_natCast, ByteArray.size_append, bs_size, zL, List.length_cons, List.length_nil, List.length_append]; first | omega | (have q1 := t4 x13.1; have q2 := t5 x13.1; omega) | (have q1 := t4 x23.1; have q2 := t5 x23.1; omega))) ?_
        refine k_loop (fun _ hs => hs.le (by repeat' (first | exact trivial | exact Ent.refl _ | exact Ent.of_eq (congrArg AV.str (prl_1 (by omega))) | exact Ent.of_eq (congrArg AV.str (prl_2 (by omega))) | exact Ent.of_eq (congrArg AV.str (prl_3 g17)) | exact Ent.of_eq (congrArg AV.str (prl_3 g27)) | exact inc_ent (by omega) | exact Ent.of_eq (congrArg (AV.int _) (by first | omega | (dsimp only; omega))) | refine And.intro ?_ ?_)) (by repeat' (first | exact trivial | (first | exact ObEnt.refl _ | exact ObEnt.junk | exact ObEnt.zero | exact ObEnt.push rfl rfl | exact ObEnt.pushRow rfl | exact ObEnt.len (by omega) | exact ObEnt.row (by repeat' (first | exact trivial | (first | exact Ent.refl _ | exact inc_ent (by omega) | exact Ent.nil rfl | exact Ent.of_eq (congrArg (AV.osl _ _ _) (by first | omega | (dsimp only; omega))) | exact Ent.of_eq (congrArg (AV.int _) (by first | omega | (dsimp only; omega)))) | refine And.intro ?_ ?_))) | refine And.intro ?_ ?_))) (fun x13 => ?_)
        try (have q13 := x13.2; dsimp only at q13)
        refine k_br (fun h14 => ?_) (fun h14 => ?_)
        · have g14 := cnd_dec_t h14
          refine k_req (by first | omega | (simp only [Int.toNat_natCast, ByteArray.size_append, bs_size, zL, List.length_cons, List.length_nil, List.length_append]; first | omega | (have q1 := t4 x13.1; have q2 := t5 x13.1; omega) | (have q1 := t4 x23.1; have q2 := t5 x23.1; omega))) ?_
          refine k_sc (c4 (Int.toNat (↑x13.1 : Int))) ?_
          refine k_br (fun h17 => ?_) (fun h17 => ?_)
          · have g17 := cnd_bne_t h17
            try simp only [Int.toNat_natCast] at g17
            exact k_out ((by rw [(L3 _ g3 x13.2.2 g17 (by omega)).1, (L3 _ g3 x13.2.2 g17 (by omega)).2]; exact Ent.refl _))
          · have g17 := cnd_bne_f h17
            try simp only [Int.toNat_natCast] at g17
            refine k_req (by first | omega | (simp only [Int.toNat_natCast, ByteArray.size_append, bs_size, zL, List.length_cons, List.length_nil, List.length_append]; first | omega | (have q1 := t4 x13.1; have q2 := t5 x13.1; omega) | (have q1 := t4 x23.1; have q2 := t5 x23.1; omega))) ?_
            refine k_req (by first | omega | (simp only [Int.toNat_natCast, ByteArray.size_append, bs_size, zL, List.length_cons, List.length_nil, List.length_append]; first | omega | (have q1 := t4 x13.1; have q2 := t5 x13.1; omega) | (have q1 := t4 x23.1; have q2 := t5 x23.1; omega))) ?_
            exact k_again (⟨x13.1 + 1, by omega, by show fbE b key (x13.1 + 1) = 0; rw [fbE_at x13.2.2]; exact g17⟩) (fun _ hs => hs.le (by repeat' (first | exact trivial | exact Ent.refl _ | exact Ent.of_eq (congrArg AV.str (prl_1 (by omega))) | exact Ent.of_eq (congrArg AV.str (prl_2 (by omega))) | exact Ent.of_eq (congrArg AV.str (prl_3 g17)) | exact Ent.of_eq (congrArg AV.str (prl_3 g27)) | exact inc_ent (by omega) | exact Ent.of_eq (congrArg (AV.int _) (by first | omega | (dsimp only; omega))) | refine And.intro ?_ ?_)) (by repeat' (first | exact trivial | (first | exact ObEnt.refl _ | exact ObEnt.junk | exact ObEnt.zero | exact ObEnt.push rfl rfl | exact ObEnt.pushRow rfl | exact ObEnt.len (by omega) | exact ObEnt.row (by repeat' (first | exact trivial | (first | exact Ent.refl _ | exact inc_ent (by omega) | exact Ent.nil rfl | exact Ent.of_eq (congrArg (AV.osl _ _ _) (by first | omega | (dsimp only; omega))) | exact Ent.of_eq (congrArg (AV.int _) (by first | omega | (dsimp only; omega)))) | refine And.intro ?_ ?_))) | refine And.intro ?_ ?_))) (by first | omega | (dsimp only; omega) | (simp; omega))
        · have g14 := cnd_dec_f h14
          exact k_out ((by have e : x13.1 = n := (by omega); have k0 := x13.2.2; rw [e] at k0; have k := L4 g3 k0; rw [k.1, k.2, prS_end, e]; exact Ent.refl _))
      · have g11 := cnd_dec_f h11
        refine k_loop (fun _ hs => hs.le (by repeat' (first | exact trivial | exact Ent.refl _ | exact Ent.of_eq (congrArg AV.str (prl_1 (by omega))) | exact Ent.of_eq (congrArg AV.str (prl_2 (by omega))) | exact Ent.of_eq (congrArg AV.str (prl_3 g17)) | exact Ent.of_eq (congrArg AV.str (prl_3 g27)) | exact inc_ent (by omega) | exact Ent.of_eq (congrArg (AV.int _) (by first | omega | (dsimp only; omega))) | refine And.intro ?_ ?_)) (by repeat' (first | exact trivial | (first | exact ObEnt.refl _ | exact ObEnt.junk | exact ObEnt.zero | exact ObEnt.push rfl rfl | exact ObEnt.pushRow rfl | exact ObEnt.len (by omega) | exact ObEnt.row (by repeat' (first | exact trivial | (first | exact Ent.refl _ | exact inc_ent (by omega) | exact Ent.nil rfl | exact Ent.of_eq (congrArg (AV.osl _ _ _) (by first | omega | (dsimp only; omega))) | exact Ent.of_eq (congrArg (AV.int _) (by first | omega | (dsimp only; omega)))) | refine And.intro ?_ ?_))) | refine And.intro ?_ ?_))) (fun x23 => ?_)
        try (have q23 := x23.2; dsimp only at q23)
        refine k_br (fun h24 => ?_) (fun h24 => ?_)
        · have g24 := cnd_dec_t h24
          refine k_req (by first | omega | (simp only [Int.toNat_natCast, ByteArray.size_append, bs_size, zL, List.length_cons, List.length_nil, List.length_append]; first | omega | (have q1 := t4 x13.1; have q2 := t5 x13.1; omega) | (have q1 := t4 x23.1; have q2 := t5 x23.1; omega))) ?_
          refine k_sc (c4 (Int.toNat (↑x23.1 : Int))) ?_
          refine k_br (fun h27 => ?_) (fun h27 => ?_)
          · have g27 := cnd_bne_t h27
            try simp only [Int.toNat_natCast] at g27
            exact k_out ((by rw [(L3 _ g3 x23.2.2 g27 (by omega)).1, (L3 _ g3 x23.2.2 g27 (by omega)).2]; exact Ent.refl _))
          · have g27 := cnd_bne_f h27
            try simp only [Int.toNat_natCast] at g27
            refine k_req (by first | omega | (simp only [Int.toNat_natCast, ByteArray.size_append, bs_size, zL, List.length_cons, List.length_nil, List.length_append]; first | omega | (have q1 := t4 x13.1; have q2 := t5 x13.1; omega) | (have q1 := t4 x23.1; have q2 := t5 x23.1; omega))) ?_
            refine k_req (by first | omega | (simp only [Int.toNat_natCast, ByteArray.size_append, bs_size, zL, List.length_cons, List.length_nil, List.length_append]; first | omega | (have q1 := t4 x13.1; have q2 := t5 x13.1; omega) | (have q1 := t4 x23.1; have q2 := t5 x23.1; omega))) ?_
            exact k_again (⟨x23.1 + 1, by omega, by show fbE b key (x23.1 + 1) = 0; rw [fbE_at x23.2.2]; exact g27⟩) (fun _ hs => hs.le (by repeat' (first | exact trivial | exact Ent.refl _ | exact Ent.of_eq (congrArg AV.str (prl_1 (by omega))) | exact Ent.of_eq (congrArg AV.str (prl_2 (by omega))) | exact Ent.of_eq (congrArg AV.str (prl_3 g17)) | exact Ent.of_eq (congrArg AV.str (prl_3 g27)) | exact inc_ent (by omega) | exact Ent.of_eq (congrArg (AV.int _) (by first | omega | (dsimp only; omega))) | refine And.intro ?_ ?_)) (by repeat' (first | exact trivial | (first | exact ObEnt.refl _ | exact ObEnt.junk | exact ObEnt.zero | exact ObEnt.push rfl rfl | exact ObEnt.pushRow rfl | exact ObEnt.len (by omega) | exact ObEnt.row (by repeat' (first | exact trivial | (first | exact Ent.refl _ | exact inc_ent (by omega) | exact Ent.nil rfl | exact Ent.of_eq (congrArg (AV.osl _ _ _) (by first | omega | (dsimp only; omega))) | exact Ent.of_eq (congrArg (AV.int _) (by first | omega | (dsimp only; omega)))) | refine And.intro ?_ ?_))) | refine And.intro ?_ ?_))) (by first | omega | (dsimp only; omega) | (simp; omega))
        · have g24 := cnd_dec_f h24
          exact k_out ((by have e : x23.1 = n := (by omega); have k0 := x23.2.2; rw [e] at k0; have k := L4 g3 k0; rw [k.1, k.2, prS_end, e]; exact Ent.refl _))

theorem rkeyE {b : Bas} {x : Int} (hv : validB b = true) (h : isK b x = false) : namE b x = 2 := by unfold namE; rw [if_pos hv, h]; rfl
theorem rkey0 {b : Bas} {x : Int} (hv : validB b = true) (h : isK b x = true) : namE b x = 0 := by unfold namE; rw [if_pos hv, h]; rfl
theorem rkey1 {b : Bas} {x : Int} (hv : validB b = false) : namE b x = 1 := by unfold namE; rw [hv]; rfl
theorem rl_0 {a : Cmd} {amt : Int} (b : Bas) (key : Nat → Int) : bs (textR a) ++ ⟨#[58, 32]⟩ ++ ⟨#[111, 107, 32]⟩ ++ bs (itoa amt) = bs (stpF b a amt key 0) := by
  show bs _ ++ bs [58, 32] ++ bs [111, 107, 32] ++ bs _ = _
  rw [bs_app, bs_app, bs_app]
  unfold stpF stpB; simp
theorem rl_1 {b : Bas} {a : Cmd} {amt : Int} {key : Nat → Int} {k : Nat} (h : ¬ k = 0) : bs (stpF b a amt key k) ++ ⟨#[32]⟩ ++ bs (namS b (key k)) = bs (stpF b a amt key (k + 1)) := by
  show bs _ ++ bs [32] ++ bs _ = _
  rw [bs_app, bs_app, stpF_succ, if_neg h, List.append_assoc]
  generalize namS b (key k) = N
  simp only [List.cons_append, List.nil_append]
theorem rl_2 {b : Bas} {a : Cmd} {amt : Int} {key : Nat → Int} {k : Nat} (h : k = 0) : bs (stpF b a amt key k) ++ ⟨#[44, 32, 103, 117, 105, 108, 116, 121]⟩ ++ ⟨#[32]⟩ ++ bs (namS b (key k)) = bs (stpF b a amt key (k + 1)) := by
  subst h
  show bs _ ++ bs gyS ++ bs [32] ++ bs _ = _
  rw [bs_app, bs_app, bs_app, stpF_succ, if_pos rfl]
  have e : stpF b a amt key 0 = stpB a amt := if_pos rfl
  rw [e]
  generalize namS b (key 0) = N
  rw [List.append_assoc (stpB a amt ++ gyS)]
  simp only [List.cons_append, List.nil_append]
theorem stpF_le {b : Bas} {a : Cmd} {amt : Int} {key : Nat → Int} (h : (stpB a amt).length ≤ 125) (k : Nat) : (stpF b a amt key k).length ≤ 133 + 17 * k := by
  unfold stpF; split
  · omega
  · rw [List.length_append, List.length_append, nmF_len]
    have : gyS.length = 8 := rfl
    omega
theorem rline_y (m : GP) (b : Bas) (a : Cmd) (er amt : Int) (n : Nat) (key : Nat → Int) (hw : b.gr.W) (hamt : -9223372036854775808 ≤ amt ∧ amt ≤ 9223372036854775807) (hn : n ≤ 40) (ha : NumOk a) (h : wrB a = true) :
    Pure Tryz.prog (gl2 m) 20 [b.av, .agg (a.cells ++ [.int .i64 er, .int .i64 amt, .isl 1 n fun i _ => .int .i64 (key i)])] (.tup [.str (bs (lnV b a er amt n key)), .int .i64 (lnE b a er n key)]) := by
  have c1 := upL (rwrit_c m a)
  rw [h] at c1
  have c0 := upL (rtext_c m a ha)
  have c2 := fun h => upL (rerr_c m er h)
  have c3 := upL (rdec_c m amt hamt)
  have c4 := upJ (m := m) (r11valid_c b hw)
  have c5 := fun i (hv : validB b = true) => upJ (m := m) (rkey_is b (key i) (validB_iff.1 hv) hw)
  have c6 := fun i => upJ (m := m) (rname_c b (key i))
  have t1 := textR_le a h
  have t2 := itoa_l20 hamt
  have t3 := errW_at (er - 1).toNat
  have t4 := fun i => namS_len b (key i)
  have t6 := stpF_le (b := b) (key := key) (stpB_le h hamt)
  have L1 := fun (hh : er < 0 ∨ er > 20) => ln_1 (b := b) (a := a) (er := er) (amt := amt) (n := n) (key := key) (fun h' => by omega)
  have L2 := fun (h1 : ¬ er < 0 ∧ ¬ er > 20) (h3 : ¬ er = 0) => ln_2 (b := b) (a := a) (er := er) (amt := amt) (n := n) (key := key) ⟨h, by omega, by omega⟩ h3
  have L3 := fun i (h3 : er = 0) (h0 : fbE b key i = 0) (h1 : ¬ namE b (key i) = 0) (hi : i < n) => ln_3 (amt := amt) h h3 h0 h1 hi
  have L4 := fun (h3 : er = 0) (h0 : fbE b key n = 0) => ln_4 (amt := amt) h h3 h0
  refine pure_sk (own := ow0) Tryz.func20 (by kernel_rfl) mixed (by kernel_rfl)
    (.sc (true) 53 ([AV.agg (Cmd.cells a)]) (AV.bool true) (.br (decide (er < (0 : Int)) || decide (er > (20 : Int))) (.out (AV.tup [AV.str { data := #[] }, Zi 1]) [] (AV.tup [AV.str (bs (lnV b a er amt n key)), Zi (lnE b a er n key)]) []) (.sc (true) 54 ([AV.agg (Cmd.cells a)]) (AV.str (bs (textR a))) (.req (ByteArray.size (bs (textR a)) + 2 ≤ 9223372036854775807) (.br (er != (0 : Int)) (.sc (true) 55 ([Zi er]) (AV.str (bs (List.getD errW (Int.toNat (er - (1 : Int))) []))) (.req (ByteArray.size (bs (textR a) ++ { data := #[(58 : UInt8), (32 : UInt8)] }) + ByteArray.size (bs (List.getD errW (Int.toNat (er - (1 : Int))) [])) ≤ 9223372036854775807) (.out (AV.tup [AV.str (bs (textR a) ++ { data := #[(58 : UInt8), (32 : UInt8)] } ++ bs (List.getD errW (Int.toNat (er - (1 : Int))) [])), Zi 0]) [] (AV.tup [AV.str (bs (lnV b a er amt n key)), Zi (lnE b a er n key)]) []))) (.req (ByteArray.size (bs (textR a) ++ { data := #[(58 : UInt8), (32 : UInt8)] }) + 3 ≤ 9223372036854775807) (.sc (true) 56 ([Zi amt]) (AV.str (bs (itoa amt))) (.req (ByteArray.size (bs (textR a) ++ { data := #[(58 : UInt8), (32 : UInt8)] } ++ { data := #[(111 : UInt8), (107 : UInt8), (32 : UInt8)] }) + ByteArray.size (bs (itoa amt)) ≤ 9223372036854775807) (.loop ({ x : Nat // x ≤ n ∧ (fun (k : Nat) => fbE b key k = (0 : Int)) x }) (fun (x : { x : Nat // x ≤ n ∧ (fun (k : Nat) => fbE b key k = (0 : Int)) x }) => mkSt [2, 3, 6, 7] [AV.own (0) (6) (0) (0) (6), AV.own (1) (8) (0) (0) (8), AV.str (bs (stpF b a amt key (x.1))), Zi (↑(x.1) : Int)] [some { es := 6, n := 1, mu := true, f := Rep.lst [Bas.cells b] }, some { es := 8, n := 1, mu := true, f := Rep.lst [Cmd.cells a ++ [Zi er, Zi amt, AV.isl (1) n fun (i x : Nat) => Zi (key i)]] }]) (fun (x : { x : Nat // x ≤ n ∧ (fun (k : Nat) => fbE b key k = (0 : Int)) x }) => n - x.1) (⟨(0 : Nat), ⟨Nat.zero_le n, rfl⟩⟩) ([2, 3, 6, 7]) ([0, 8]) ([AV.own (0) (6) (0) (0) (6), AV.own (1) (8) (0) (0) (8), AV.str (bs (textR a) ++ { data := #[(58 : UInt8), (32 : UInt8)] } ++ { data := #[(111 : UInt8), (107 : UInt8), (32 : UInt8)] } ++ bs (itoa amt)), Zi 0]) ([some { es := 6, n := 1, mu := true, f := Rep.lst [Bas.cells b] }, some { es := 8, n := 1, mu := true, f := Rep.lst [Cmd.cells a ++ [Zi er, Zi amt, AV.isl (1) n fun (i x : Nat) => Zi (key i)]] }]) (fun x12 => (.br (decide ((↑x12.1 : Int) < (↑n : Int))) (.sc (true) 57 ([AV.agg (Bas.cells b)]) (AV.bool (validB b)) (.br (!validB b) (.out (AV.tup [AV.str { data := #[] }, Zi 1]) [] (AV.tup [AV.str (bs (lnV b a er amt n key)), Zi (lnE b a er n key)]) []) (.req ((0 : Int) ≤ (↑x12.1 : Int) ∧ (↑x12.1 : Int) < (↑n : Int)) (.sc (true) 58 ([AV.agg (Bas.cells b), Zi (key (Int.toNat (↑x12.1 : Int)))]) (AV.bool (isK b (key (Int.toNat (↑x12.1 : Int))))) (.br (!isK b (key (Int.toNat (↑x12.1 : Int)))) (.out (AV.tup [AV.str { data := #[] }, Zi 2]) [] (AV.tup [AV.str (bs (lnV b a er amt n key)), Zi (lnE b a er n key)]) []) (.br ((↑x12.1 : Int) == (0 : Int)) (.req (ByteArray.size (bs (stpF b a amt key x12.1)) + 8 ≤ 9223372036854775807) (.req (ByteArray.size (bs (stpF b a amt key x12.1) ++ { data := #[(44 : UInt8), (32 : UInt8), (103 : UInt8), (117 : UInt8), (105 : UInt8), (108 : UInt8), (116 : UInt8), (121 : UInt8)] }) + 1 ≤ 9223372036854775807) (.req ((0 : Int) ≤ (↑x12.1 : Int) ∧ (↑x12.1 : Int) < (↑n : Int)) (.sc (true) 59 ([AV.agg (Bas.cells b), Zi (key (Int.toNat (↑x12.1 : Int)))]) (AV.str (bs (namS b (key (Int.toNat (↑x12.1 : Int)))))) (.req (ByteArray.size (bs (stpF b a amt key x12.1) ++ { data := #[(44 : UInt8), (32 : UInt8), (103 : UInt8), (117 : UInt8), (105 : UInt8), (108 : UInt8), (116 : UInt8), (121 : UInt8)] } ++ { data := #[(32 : UInt8)] }) + 16 ≤ 9223372036854775807) (.again (Again (0) (fun (x : { x : Nat // x ≤ n ∧ (fun (k : Nat) => fbE b key k = (0 : Int)) x }) => mkSt [2, 3, 6, 7] [AV.own (0) (6) (0) (0) (6), AV.own (1) (8) (0) (0) (8), AV.str (bs (stpF b a amt key (x.1))), Zi (↑(x.1) : Int)] [some { es := 6, n := 1, mu := true, f := Rep.lst [Bas.cells b] }, some { es := 8, n := 1, mu := true, f := Rep.lst [Cmd.cells a ++ [Zi er, Zi amt, AV.isl (1) n fun (i x : Nat) => Zi (key i)]] }]) (fun (x : { x : Nat // x ≤ n ∧ (fun (k : Nat) => fbE b key k = (0 : Int)) x }) => n - x.1) x12) ([2, 3, 6, 7]) ([0, 1]) ([AV.own (0) (6) (0) (0) (6), AV.own (1) (8) (0) (0) (8), AV.str (bs (stpF b a amt key x12.1) ++ { data := #[(44 : UInt8), (32 : UInt8), (103 : UInt8), (117 : UInt8), (105 : UInt8), (108 : UInt8), (116 : UInt8), (121 : UInt8)] } ++ { data := #[(32 : UInt8)] } ++ bs (namS b (key (Int.toNat (↑x12.1 : Int))))), Zi (IntKind.wrap IntKind.i64 ((↑x12.1 : Int) + (1 : Int)))]) ([some { es := 6, n := 1, mu := true, f := Rep.lst [Bas.cells b] }, some { es := 8, n := 1, mu := true, f := Rep.lst [Cmd.cells a ++ [Zi er, Zi amt, AV.isl (1) n fun (i x : Nat) => Zi (key i)]] }]))))))) (.req (ByteArray.size (bs (stpF b a amt key x12.1)) + 1 ≤ 9223372036854775807) (.req ((0 : Int) ≤ (↑x12.1 : Int) ∧ (↑x12.1 : Int) < (↑n : Int)) (.sc (true) 59 ([AV.agg (Bas.cells b), Zi (key (Int.toNat (↑x12.1 : Int)))]) (AV.str (bs (namS b (key (Int.toNat (↑x12.1 : Int)))))) (.req (ByteArray.size (bs (stpF b a amt key x12.1) ++ { data := #[(32 : UInt8)] }) + 16 ≤ 9223372036854775807) (.again (Again (0) (fun (x : { x : Nat // x ≤ n ∧ (fun (k : Nat) => fbE b key k = (0 : Int)) x }) => mkSt [2, 3, 6, 7] [AV.own (0) (6) (0) (0) (6), AV.own (1) (8) (0) (0) (8), AV.str (bs (stpF b a amt key (x.1))), Zi (↑(x.1) : Int)] [some { es := 6, n := 1, mu := true, f := Rep.lst [Bas.cells b] }, some { es := 8, n := 1, mu := true, f := Rep.lst [Cmd.cells a ++ [Zi er, Zi amt, AV.isl (1) n fun (i x : Nat) => Zi (key i)]] }]) (fun (x : { x : Nat // x ≤ n ∧ (fun (k : Nat) => fbE b key k = (0 : Int)) x }) => n - x.1) x12) ([2, 3, 6, 7]) ([0, 1]) ([AV.own (0) (6) (0) (0) (6), AV.own (1) (8) (0) (0) (8), AV.str (bs (stpF b a amt key x12.1) ++ { data := #[(32 : UInt8)] } ++ bs (namS b (key (Int.toNat (↑x12.1 : Int))))), Zi (IntKind.wrap IntKind.i64 ((↑x12.1 : Int) + (1 : Int)))]) ([some { es := 6, n := 1, mu := true, f := Rep.lst [Bas.cells b] }, some { es := 8, n := 1, mu := true, f := Rep.lst [Cmd.cells a ++ [Zi er, Zi amt, AV.isl (1) n fun (i x : Nat) => Zi (key i)]] }])))))))))))) (.out (AV.tup [AV.str (bs (stpF b a amt key x12.1)), Zi 0]) [] (AV.tup [AV.str (bs (lnV b a er amt n key)), Zi (lnE b a er n key)]) []))))))))))))
    (by kernel_rfl) ?_
  refine k_sc (c1) ?_
  refine k_br (fun h1 => ?_) (fun h1 => ?_)
  · have g1 := (cnd_or_t cnd_dec_t cnd_dec_t) h1
    exact k_out ((by rw [(L1 g1).1, (L1 g1).2]; exact Ent.refl _))
  · have g1 := (cnd_or_f cnd_dec_f cnd_dec_f) h1
    refine k_sc (c0) ?_
    refine k_req (by first | omega | (simp only [Int.toNat_natCast, ByteArray.size_append, bs_size, zL, List.length_cons, List.length_nil, List.length_append]; first | omega | (have q1 := t4 x12.1; have q2 := t6 x12.1; omega))) ?_
    refine k_br (fun h5 => ?_) (fun h5 => ?_)
    · have g5 := cnd_bne_t h5
      refine k_sc (c2 (by first | assumption | omega)) ?_
      refine k_req (by first | omega | (simp only [Int.toNat_natCast, ByteArray.size_append, bs_size, zL, List.length_cons, List.length_nil, List.length_append]; first | omega | (have q1 := t4 x12.1; have q2 := t6 x12.1; omega))) ?_
      exact k_out ((by rw [(L2 g1 g5).1, (L2 g1 g5).2]; exact Ent.of_eq (by rw [← bs_app, ← bs_app, ByteArray.append_assoc]; try rfl)))
    · have g5 := cnd_bne_f h5
      refine k_req (by first | omega | (simp only [Int.toNat_natCast, ByteArray.size_append, bs_size, zL, List.length_cons, List.length_nil, List.length_append]; first | omega | (have q1 := t4 x12.1; have q2 := t6 x12.1; omega))) ?_
      refine k_sc (c3) ?_
      refine k_req (by first | omega | (simp only [Int.toNat_natCast, ByteArray.size_append, bs_size, zL, List.length_cons, List.length_nil, List.length_append]; first | omega | (have q1 := t4 x12.1; have q2 := t6 x12.1; omega))) ?_
      refine k_loop (fun _ hs => hs.le (by repeat' (first | exact trivial | exact Ent.refl _ | exact Ent.of_eq (congrArg AV.str (rl_0 b key)) | exact Ent.of_eq (congrArg AV.str (rl_1 (by omega))) | exact Ent.of_eq (congrArg AV.str (rl_2 (by omega))) | exact inc_ent (by omega) | exact Ent.of_eq (congrArg (AV.int _) (by first | omega | (dsimp only; omega))) | refine And.intro ?_ ?_)) (by repeat' (first | exact trivial | (first | exact ObEnt.refl _ | exact ObEnt.junk | exact ObEnt.zero | exact ObEnt.push rfl rfl | exact ObEnt.pushRow rfl | exact ObEnt.len (by omega) | exact ObEnt.row (by repeat' (first | exact trivial | (first | exact Ent.refl _ | exact inc_ent (by omega) | exact Ent.nil rfl | exact Ent.of_eq (congrArg (AV.osl _ _ _) (by first | omega | (dsimp only; omega))) | exact Ent.of_eq (congrArg (AV.int _) (by first | omega | (dsimp only; omega)))) | refine And.intro ?_ ?_))) | refine And.intro ?_ ?_))) (fun x12 => ?_)
      try (have q12 := x12.2; dsimp only at q12)
      refine k_br (fun h13 => ?_) (fun h13 => ?_)
      · have g13 := cnd_dec_t h13
        refine k_sc (c4) ?_
        refine k_br (fun h15 => ?_) (fun h15 => ?_)
        · have g15 := (cnd_not_t cnd_id_f) h15
          exact k_out ((by have e := rkey1 (x := key x12.1) g15; rw [(L3 _ g5 x12.2.2 (by rw [e]; decide) (by omega)).1, (L3 _ g5 x12.2.2 (by rw [e]; decide) (by omega)).2, e]; exact Ent.refl _))
        · have g15 := (cnd_not_f cnd_id_t) h15
          refine k_req (by first | omega | (simp only [Int.toNat_natCast, ByteArray.size_append, bs_size, zL, List.length_cons, List.length_nil, List.length_append]; first | omega | (have q1 := t4 x12.1; have q2 := t6 x12.1; omega))) ?_
          refine k_sc (c5 (Int.toNat (↑x12.1 : Int)) (by first | assumption | omega)) ?_
          refine k_br (fun h19 => ?_) (fun h19 => ?_)
          · have g19 := (cnd_not_t cnd_id_f) h19
            try simp only [Int.toNat_natCast] at g19
            exact k_out ((by have e := rkeyE g15 g19; rw [(L3 _ g5 x12.2.2 (by rw [e]; decide) (by omega)).1, (L3 _ g5 x12.2.2 (by rw [e]; decide) (by omega)).2, e]; exact Ent.refl _))
          · have g19 := (cnd_not_f cnd_id_t) h19
            try simp only [Int.toNat_natCast] at g19
            refine k_br (fun h21 => ?_) (fun h21 => ?_)
            · have g21 := cnd_beq_t h21
              refine k_req (by first | omega | (simp only [Int.toNat_natCast, ByteArray.size_append, bs_size, zL, List.length_cons, List.length_nil, List.length_append]; first | omega | (have q1 := t4 x12.1; have q2 := t6 x12.1; omega))) ?_
              refine k_req (by first | omega | (simp only [Int.toNat_natCast, ByteArray.size_append, bs_size, zL, List.length_cons, List.length_nil, List.length_append]; first | omega | (have q1 := t4 x12.1; have q2 := t6 x12.1; omega))) ?_
              refine k_req (by first | omega | (simp only [Int.toNat_natCast, ByteArray.size_append, bs_size, zL, List.length_cons, List.length_nil, List.length_append]; first | omega | (have q1 := t4 x12.1; have q2 := t6 x12.1; omega))) ?_
              refine k_sc (c6 (Int.toNat (↑x12.1 : Int))) ?_
              refine k_req (by first | omega | (simp only [Int.toNat_natCast, ByteArray.size_append, bs_size, zL, List.length_cons, List.length_nil, List.length_append]; first | omega | (have q1 := t4 x12.1; have q2 := t6 x12.1; omega))) ?_
              exact k_again (⟨x12.1 + 1, by omega, by show fbE b key (x12.1 + 1) = 0; rw [fbE_at x12.2.2]; exact rkey0 g15 g19⟩) (fun _ hs => hs.le (by repeat' (first | exact trivial | exact Ent.refl _ | exact Ent.of_eq (congrArg AV.str (rl_0 b key)) | exact Ent.of_eq (congrArg AV.str (rl_1 (by omega))) | exact Ent.of_eq (congrArg AV.str (rl_2 (by omega))) | exact inc_ent (by omega) | exact Ent.of_eq (congrArg (AV.int _) (by first | omega | (dsimp only; omega))) | refine And.intro ?_ ?_)) (by repeat' (first | exact trivial | (first | exact ObEnt.refl _ | exact ObEnt.junk | exact ObEnt.zero | exact ObEnt.push rfl rfl | exact ObEnt.pushRow rfl | exact ObEnt.len (by omega) | exact ObEnt.row (by repeat' (first | exact trivial | (first | exact Ent.refl _ | exact inc_ent (by omega) | exact Ent.nil rfl | exact Ent.of_eq (congrArg (AV.osl _ _ _) (by first | omega | (dsimp only; omega))) | exact Ent.of_eq (congrArg (AV.int _) (by first | omega | (dsimp only; omega)))) | refine And.intro ?_ ?_))) | refine And.intro ?_ ?_))) (by first | omega | (dsimp only; omega) | (simp; omega))
            · have g21 := cnd_beq_f h21
              refine k_req (by first | omega | (simp only [Int.toNat_natCast, ByteArray.size_append, bs_size, zL, List.length_cons, List.length_nil, List.length_append]; first | omega | (have q1 := t4 x12.1; have q2 := t6 x12.1; omega))) ?_
              refine k_req (by first | omega | (simp only [Int.toNat_natCast, ByteArray.size_append, bs_size, zL, List.length_cons, List.length_nil, List.length_append]; first | omega | (have q1 := t4 x12.1; have q2 := t6 x12.1; omega))) ?_
              refine k_sc (c6 (Int.toNat (↑x12.1 : Int))) ?_
              refine k_req (by first | omega | (simp only [Int.toNat_natCast, ByteArray.size_append, bs_size, zL, List.length_cons, List.length_nil, List.length_append]; first | omega | (have q1 := t4 x12.1; have q2 := t6 x12.1; omega))) ?_
              exact k_again (⟨x12.1 + 1, by omega, by show fbE b key (x12.1 + 1) = 0; rw [fbE_at x12.2.2]; exact rkey0 g15 g19⟩) (fun _ hs => hs.le (by repeat' (first | exact trivial | exact Ent.refl _ | exact Ent.of_eq (congrArg AV.str (rl_0 b key)) | exact Ent.of_eq (congrArg AV.str (rl_1 (by omega))) | exact Ent.of_eq (congrArg AV.str (rl_2 (by omega))) | exact inc_ent (by omega) | exact Ent.of_eq (congrArg (AV.int _) (by first | omega | (dsimp only; omega))) | refine And.intro ?_ ?_)) (by repeat' (first | exact trivial | (first | exact ObEnt.refl _ | exact ObEnt.junk | exact ObEnt.zero | exact ObEnt.push rfl rfl | exact ObEnt.pushRow rfl | exact ObEnt.len (by omega) | exact ObEnt.row (by repeat' (first | exact trivial | (first | exact Ent.refl _ | exact inc_ent (by omega) | exact Ent.nil rfl | exact Ent.of_eq (congrArg (AV.osl _ _ _) (by first | omega | (dsimp only; omega))) | exact Ent.of_eq (congrArg (AV.int _) (by first | omega | (dsimp only; omega)))) | refine And.intro ?_ ?_))) | refine And.intro ?_ ?_))) (by first | omega | (dsimp only; omega) | (simp; omega))
      · have g13 := cnd_dec_f h13
        exact k_out ((by have e : x12.1 = n := (by omega); have k0 := x12.2.2; rw [e] at k0; have k := L4 g5 k0; rw [k.1, k.2, e]; exact Ent.refl _))

theorem numOk_of {a : Cmd} (h : wrB a = true) : NumOk a := fun j hj => by
  unfold wrB at h
  simp only [Bool.and_eq_true] at h
  have := List.all_eq_true.1 h.2.1 (numsK a)[j] (List.getElem_mem hj)
  simp only [Bool.and_eq_true, decide_eq_true_eq] at this
  rw [List.getD_eq_getElem?_getD, List.getElem?_eq_getElem hj]
  exact this
theorem cline_c (m : GP) (b : Bas) (a : Cmd) (er amt : Int) (n : Nat) (key : Nat → Int) (hw : b.gr.W) (ha : CmdR a) (hamt : -9223372036854775808 ≤ amt ∧ amt ≤ 9223372036854775807) (hn : n ≤ 40) :
    Pure Tryz.prog (gl2 m) 19 [.agg (b.cells ++ [.nsl, .nsl, .nsl, .int .i64 0, .nsl, .nsl, .nsl, .nsl, .nsl, .nsl, .int .i64 0]), .agg (a.cells ++ [.int .i64 er, .int .i64 amt, .isl 1 n fun i _ => .int .i64 (key i)])] (.tup [.str (bs (lnV b a er amt n key)), .int .i64 (lnE b a er n key)]) := by
  by_cases h : wrB a = true
  · exact line_y m b a er amt n key hw ha hamt hn h
  · obtain ⟨e1, e2⟩ := ln_1 (b := b) (a := a) (er := er) (amt := amt) (n := n) (key := key) (fun h' => h h'.1)
    rw [e1, e2]; exact line_no m b a er amt n key ha hn h
theorem crline_c (m : GP) (b : Bas) (a : Cmd) (er amt : Int) (n : Nat) (key : Nat → Int) (hw : b.gr.W) (hamt : -9223372036854775808 ≤ amt ∧ amt ≤ 9223372036854775807) (hn : n ≤ 40) :
    Pure Tryz.prog (gl2 m) 20 [b.av, .agg (a.cells ++ [.int .i64 er, .int .i64 amt, .isl 1 n fun i _ => .int .i64 (key i)])] (.tup [.str (bs (lnV b a er amt n key)), .int .i64 (lnE b a er n key)]) := by
  by_cases h : wrB a = true
  · exact rline_y m b a er amt n key hw hamt hn (numOk_of h) h
  · obtain ⟨e1, e2⟩ := ln_1 (b := b) (a := a) (er := er) (amt := amt) (n := n) (key := key) (fun h' => h h'.1)
    rw [e1, e2]; exact rline_no m b a er amt n key hn h
theorem consoleLines_c (m : GP) (b : Bas) (a : Cmd) (er amt : Int) (n : Nat) (key : Nat → Int) (hw : b.gr.W) (ha : CmdR a) (hamt : -9223372036854775808 ≤ amt ∧ amt ≤ 9223372036854775807) (hn : n < 9223372036854775808) :
    Pure Tryz.prog (gl2 m) 5 [b.av, .agg (a.cells ++ [.int .i64 er, .int .i64 amt, .isl 1 n fun i _ => .int .i64 (key i)])] (.bool true) := by
  have c0 := upL (awake_c m)
  have c1 := fun h => cline_c m b a er amt n key hw ha hamt h
  have c2 := fun h => crline_c m b a er amt n key hw hamt h
  refine pure_sk (own := ow0) Tryz.func5 (by kernel_rfl) mixed (by kernel_rfl)
    (.sc (true) 18 ([]) (AV.bool true) (.br (decide ((↑n : Int) > (40 : Int))) (.sc (true) 18 ([]) (AV.bool true) (.out (AV.bool true) [] (AV.bool true) [])) (.sc (true) 19 ([AV.agg (Bas.cells b ++ kKM30), AV.agg (Cmd.cells a ++ [Zi er, Zi amt, AV.isl (1) n fun (i x : Nat) => Zi (key i)])]) (AV.tup [AV.str (bs (lnV b a er amt n key)), Zi (lnE b a er n key)]) (.sc (true) 20 ([AV.agg (Bas.cells b), AV.agg (Cmd.cells a ++ [Zi er, Zi amt, AV.isl (1) n fun (i x : Nat) => Zi (key i)])]) (AV.tup [AV.str (bs (lnV b a er amt n key)), Zi (lnE b a er n key)]) (.out (AV.bool (ByteArray.toList (bs (lnV b a er amt n key)) == ByteArray.toList (bs (lnV b a er amt n key)) && lnE b a er n key == lnE b a er n key)) [] (AV.bool true) [])))))
    (by kernel_rfl) ?_
  refine k_sc (c0) ?_
  refine k_br (fun h1 => ?_) (fun h1 => ?_)
  · have g1 := cnd_dec_t h1
    refine k_sc (c0) ?_
    exact k_out (Ent.of_eq (by first | rfl | simp_all))
  · have g1 := cnd_dec_f h1
    refine k_sc (c1 (by first | assumption | omega)) ?_
    refine k_sc (c2 (by first | assumption | omega)) ?_
    exact k_out (Ent.of_eq (by first | rfl | simp_all))

end Go.Proofs.YtbmdmoknnlhdoaaGreatDoor.L

namespace Go.Am
open Go Go.RowKit
section
variable {H : Type} {enc : TypeId × Value → H}
theorem returns_shaped {a : Assume} {C : Checked} {os : Os} {f : FuncId} {fn : Func} {s : ChangeSpec} {conds : List PathCond} {apart fresh handsOn again : Bool} {X : World → Array Value → Prop}
    (hX : ∀ (w w' : World) (args : Array Value), w.heap = w'.heap → X w args → X w' args)
    (own : ownKnob C.prog.godebug = none) (started : os.Started) (noInit : C.prog.inits.idxOf? f = none) (hfn : C.prog.funcs[f]? = some fn)
    (witness : ∃ (w : World) (tape : Tape) (i : Input), w.os = os ∧ (w.forCall tape i).Shaped C.prog ∧ i.vars = [] ∧ Input.okWide C.prog (w.forCall tape i) .any w.heap.size f i ∧
      ((s.pre enc C.prog fn conds apart (w.forCall tape i).memory i.args ∧ X (w.forCall tape i).memory i.args) ∧ sizedMet enc C.prog fn (OpenSpec.ofChange s) apart (w.forCall tape i).memory i.args) ∧ a.holds C.prog (lone (Frame.enter C.prog f i.args .normal) [] (w.forCall tape i)))
    (contract : ∀ (W : World) (base : Nat) (args : Array Value) (ds gs : List (DataW H)) (before : List MemPlace),
      (∀ (j : Nat) t v, fn.params[j]? = some t → args[j]? = some v → Value.okWide C.prog W .any base t v) →
      DataW.Whole enc C.prog fn.params.toList s.vars apart W args.toList ds gs before →
      conds.all (PathCond.test C.prog ⟨fn.params.toList, ds, s.plain.varTypes C.prog, gs⟩) = true →
      (DataW.weightsEach C.prog (fn.params.toList ++ s.plain.varTypes C.prog) (ds ++ gs)).all (· ≤ reachBytes) = true → X W args → W.ShapedOpen C.prog →
      a.holds C.prog (lone (Frame.enter C.prog f args .normal) [] W) →
      Calls C.prog f args W fun e W' => ∃ v, e = .returned v ∧ s.post enc C.prog fn apart fresh handsOn again W args v W') :
    ReturnsInHanded a C os f .any (fun w args => (s.pre enc C.prog fn conds apart w args ∧ X w args) ∧ sizedMet enc C.prog fn (OpenSpec.ofChange s) apart w args) (s.post enc C.prog fn apart fresh handsOn again) := by
  refine returnsInHanded_of_calls own started noInit witness ?_
  intro w tape i _ hsh _ hok hpre hholds
  obtain ⟨_, _, _, fn', hfn', _, _, _, _, hval⟩ := hok
  have e : fn' = fn := Option.some.inj (hfn'.symm.trans hfn)
  subst e
  obtain ⟨⟨⟨ds, gs, before, hw, hc⟩, hx⟩, hz⟩ := hpre
  have hw' := DataW.Whole.of_heap (w' := w.forCall tape i) (by rfl) hw
  refine (contract (w.forCall tape i) w.heap.size i.args ds gs before hval hw' hc (hz.weights hw) (hX _ _ _ (by rfl) hx) hsh hholds).mono fun e W' ⟨v, he, hp⟩ => ?_
  subst he
  exact ChangeSpec.post_blind hp
end
theorem glob_open {P : Program} {w : World} {β : Book} {g : Nat} {t : TypeId} {k : IntKind} (h : w.ShapedOpen P) (hg : g < P.globals.size) (h0 : ((begin P (fun _ _ => 0) default).world.heap[g]?).bind Obj.row? = some (#[.int k 0], t))
    (hb : P.buildable t = true) (hc : P.cellTypes P.depth t = some [t]) (hu : P.underlying t = some (.int k)) (hf : β.free g) : ∃ m, GlobAt β w g 1 fun _ => .int k m := by
  obtain ⟨m, hm⟩ := Go.Proofs.cell_of_shapedOpen_int h hg h0 rfl hb hc hu
  obtain ⟨cs, hh, hs, _⟩ := h.1 g _ t hg h0
  refine ⟨m, .ipt (fun _ => .int k m) (by decide) hf (fun j hj => ?_) (fun _ _ => rfl) (fun _ _ => .int) (fun _ _ => .int), t, ?_⟩
  · obtain rfl : j = 0 := Nat.lt_one_iff.1 hj
    exact hm
  · unfold World.shape?
    rw [hh]
    show some (t, cs.size) = some (t, 1)
    rw [hs]; rfl
end Go.Am

namespace Go.Sp
open Go Go.Am


def i64s (n : Nat) : List CT := List.replicate n (.int .i64)
end Go.Sp
