/- Part of the proof: TryzSupShelfP, HU6, HU7, HU8, HU9, HU10, QT4, QT5, Rep1, Cns8, Rep2, QT6, QT7, QT8, QT9, SpOpen, SpOpenP, ArgsS, EnGlobS, EnShp. -/
import Derived.Shelf.SlSortCmp.WholeK
import Derived.Ground.SlsfProg
import Derived.Test.YtbmdmoknnlhdoaaGreatDoorProg
import Derived.Test.YtbmdmoknnlhdoaaGreatDoorM5
import Derived.Test.YtbmdmoknnlhdoaaGreatDoorM3
import Derived.StillTailTactics
import Derived.Deep.QuietTactic
import Derived.Test.YtbmdmoknnlhdoaaGreatDoorM4
import Derived.Lib.IndexMore
import Derived.HandedShaped
import Derived.Shelf.Vars
namespace Go.Proofs
open Go.Shelf
def Tryz.sortSup_ren : Go.Shelf.Ren := ⟨fun | 6 => 150 | 15 => 194 | 14 => 193 | 28 => 231 | 29 => 198 | 20 => 223 | 21 => 224 | 22 => 225 | 23 => 226 | 24 => 227 | 25 => 228 | 26 => 229 | 27 => 230 | 46 => 246 | 47 => 247 | 48 => 248 | 49 => 249 | 50 => 250 | 57 => 259 | n => n, fun | 22 => 22 | 24 => 85 | 25 => 163 | 3 => 3 | 39 => 99 | 0 => 0 | 53 => 234 | 55 => 206 | 4 => 4 | 46 => 284 | 45 => 283 | 50 => 49 | 5 => 5 | 9 => 9 | 66 => 306 | 70 => 164 | 76 => 313 | 77 => 88 | n => n, fun | n => n⟩
theorem Tryz.sortSup : Go.Proofs.SlLaysF0.n6 Tryz.prog Tryz.sortSup_ren := {
  mixed := by kernel_rfl
  f6 := ⟨Tryz.f150.name, by decide, Tryz.func150.trans (congrArg some (by kernel_rfl))⟩
  f14 := ⟨Tryz.f193.name, by decide, Tryz.func193.trans (congrArg some (by kernel_rfl))⟩
  f15 := Tryz.func194.trans (congrArg some (by kernel_rfl))
  f20 := ⟨Tryz.f223.name, by decide, Tryz.func223.trans (congrArg some (by kernel_rfl))⟩
  f21 := ⟨Tryz.f224.name, by decide, Tryz.func224.trans (congrArg some (by kernel_rfl))⟩
  f22 := ⟨Tryz.f225.name, by decide, Tryz.func225.trans (congrArg some (by kernel_rfl))⟩
  f23 := ⟨Tryz.f226.name, by decide, Tryz.func226.trans (congrArg some (by kernel_rfl))⟩
  f24 := ⟨Tryz.f227.name, by decide, Tryz.func227.trans (congrArg some (by kernel_rfl))⟩
  f25 := ⟨Tryz.f228.name, by decide, Tryz.func228.trans (congrArg some (by kernel_rfl))⟩
  f26 := ⟨Tryz.f229.name, by decide, Tryz.func229.trans (congrArg some (by kernel_rfl))⟩
  f27 := ⟨Tryz.f230.name, by decide, Tryz.func230.trans (congrArg some (by kernel_rfl))⟩
  f28 := Tryz.func231.trans (congrArg some (by kernel_rfl))
  f29 := Tryz.func198.trans (congrArg some (by kernel_rfl))
  f46 := ⟨Tryz.f246.name, by decide, Tryz.func246.trans (congrArg some (by kernel_rfl))⟩
  f47 := Tryz.func247.trans (congrArg some (by kernel_rfl))
  f48 := Tryz.func248.trans (congrArg some (by kernel_rfl))
  f49 := ⟨Tryz.f249.name, by decide, Tryz.func249.trans (congrArg some (by kernel_rfl))⟩
  f50 := ⟨Tryz.f250.name, by decide, Tryz.func250.trans (congrArg some (by kernel_rfl))⟩
  f57 := ⟨Tryz.f259.name, by decide, Tryz.func259.trans (congrArg some (by kernel_rfl))⟩
  t0 := Tryz.underlying0
  a0 := Tryz.isAgg0
  z0 := Tryz.sizeOf0
  v0 := Tryz.zeroValue0
  t3 := Tryz.underlying3
  a3 := Tryz.isAgg3
  z3 := Tryz.sizeOf3
  v3 := Tryz.zeroValue3
  t4 := Tryz.underlying4
  a4 := Tryz.isAgg4
  z4 := Tryz.sizeOf4
  v4 := Tryz.zeroValue4
  t5 := Tryz.underlying5
  a5 := Tryz.isAgg5
  z5 := Tryz.sizeOf5
  v5 := Tryz.zeroValue5
  t9 := Tryz.underlying9
  a9 := Tryz.isAgg9
  z9 := Tryz.sizeOf9
  v9 := Tryz.zeroValue9
  t22 := Tryz.underlying22
  a22 := Tryz.isAgg22
  z22 := Tryz.sizeOf22
  v22 := Tryz.zeroValue22
  t25 := Tryz.underlying163
  a25 := Tryz.isAgg163
  z25 := Tryz.sizeOf163
  v25 := Tryz.zeroValue163
  t39 := Tryz.underlying99
  a39 := Tryz.isAgg99
  z39 := Tryz.sizeOf99
  v39 := Tryz.zeroValue99
  t45 := Tryz.underlying283
  a45 := Tryz.isAgg283
  z45 := Tryz.sizeOf283
  v45 := Tryz.zeroValue283
  t46 := Tryz.underlying284
  a46 := Tryz.isAgg284
  z46 := Tryz.sizeOf284
  v46 := Tryz.zeroValue284
  t50 := Tryz.underlying49
  a50 := Tryz.isAgg49
  z50 := Tryz.sizeOf49
  v50 := Tryz.zeroValue49
  t53 := Tryz.underlying234
  a53 := Tryz.isAgg234
  z53 := Tryz.sizeOf234
  v53 := Tryz.zeroValue234
  t55 := Tryz.underlying206
  a55 := Tryz.isAgg206
  z55 := Tryz.sizeOf206
  v55 := Tryz.zeroValue206
  t66 := Tryz.underlying306
  a66 := Tryz.isAgg306
  z66 := Tryz.sizeOf306
  v66 := Tryz.zeroValue306
  t70 := Tryz.underlying164
  a70 := Tryz.isAgg164
  z70 := Tryz.sizeOf164
  v70 := Tryz.zeroValue164
  t76 := Tryz.underlying313
  a76 := Tryz.isAgg313
  z76 := Tryz.sizeOf313
  v76 := Tryz.zeroValue313
  t77 := Tryz.underlying88
  a77 := Tryz.isAgg88
  z77 := Tryz.sizeOf88
  v77 := Tryz.zeroValue88 }
end Go.Proofs

namespace Go.Proofs.YtbmdmoknnlhdoaaGreatDoor.U
open Go Go.Am Go.Sp Go.RowKit Go.Shelf Go.Sort
set_option maxRecDepth 100000

theorem nan_w (n : Int) (W : World) : Calls Tryz.prog 195 #[.int .i64 n] W fun e w' => e = .returned (.bool false) ∧ w' = W := by
  go_enter Tryz.func195, Tryz.ntmps195
  go_wp2
  go_ret
  exact ⟨rfl, rfl⟩
theorem cmpI_w (a b : Int) (W : World) : Calls Tryz.prog 153 #[.int .i64 a, .int .i64 b] W fun e w' => e = .returned (.int .i64 (cmpI a b)) ∧ w' = W := by
  have h1 := nan_w a W
  have h2 := nan_w b W
  go_enter Tryz.func153, Tryz.ntmps153
  go_wp2_with (go_at_call 195; first | (refine h1.mono ?_; rintro e w' ⟨rfl, rfl⟩) | (refine h2.mono ?_; rintro e w' ⟨rfl, rfl⟩))
  all_goals (go_ret; refine ⟨?_, rfl⟩; unfold cmpI; simp; try omega)
theorem or_w (a b c : Int) (B : Nat) (W : World) (h0 : W.cell? ⟨B, 0, none⟩ = some (.int .i64 a)) (h1 : W.cell? ⟨B, 1, none⟩ = some (.int .i64 b)) (h2 : W.cell? ⟨B, 2, none⟩ = some (.int .i64 c)) : Calls Tryz.prog 152 #[.slice (some ⟨B, 0, none⟩) 3 3] W fun e w' => e = .returned (.int .i64 (if a ≠ 0 then a else if b ≠ 0 then b else c)) ∧ w' = W := by
  go_enter Tryz.func152, Tryz.ntmps152
  go_wp2
  refine wp_loop_rounds 4 ?_
  rw [rounds_succ]
  go_wp2
  all_goals try (go_ret; exact ⟨by simp_all, rfl⟩)
  all_goals (rw [rounds_succ]; go_wp2)
  all_goals try (go_ret; exact ⟨by simp_all, rfl⟩)
  all_goals (rw [rounds_succ]; go_wp2)
  all_goals try (go_ret; exact ⟨by simp_all, rfl⟩)
  all_goals (rw [rounds_succ]; go_wp2)
  all_goals (go_ret; exact ⟨by simp_all, rfl⟩)
theorem compare_w (a b : Sup) (W : World) : Calls Tryz.prog 103 #[rowV (supI a), rowV (supI b)] W fun e w' => e = .returned (.int .i64 (cmpS a b)) ∧ ∃ q os', w' = grow (W.drewN q) os' := by
  unfold rowV
  have ho : ∀ (B : Nat) (V : World), V.cell? ⟨B, 0, none⟩ = some (.int .i64 (cmpI a.bank b.bank)) → V.cell? ⟨B, 1, none⟩ = some (.int .i64 (cmpI a.epoch b.epoch)) → V.cell? ⟨B, 2, none⟩ = some (.int .i64 (cmpI a.denom b.denom)) → Calls Tryz.prog 152 #[.slice (some ⟨B, 0, none⟩) 3 3] V fun e w' => e = .returned (.int .i64 (cmpS a b)) ∧ w' = V := or_w _ _ _
  generalize cmpS a b = R at ho ⊢
  go_enter Tryz.func103, Tryz.ntmps103
  go_wp2
  have hz : (W.alloc (.cells #[.int .i64 (supI a 0), .int .i64 (supI a 1), .int .i64 (supI a 2), .int .i64 (supI a 3), .int .i64 (supI a 4), .int .i64 (supI a 5), .int .i64 (supI a 6)] 85)).heap.size = W.heap.size + 1 := by simp
  have hA := alloc_cell (w := W) (cs := #[.int .i64 (supI a 0), .int .i64 (supI a 1), .int .i64 (supI a 2), .int .i64 (supI a 3), .int .i64 (supI a 4), .int .i64 (supI a 5), .int .i64 (supI a 6)]) (t := 85)
  have hB := alloc_cell (w := W.alloc (.cells #[.int .i64 (supI a 0), .int .i64 (supI a 1), .int .i64 (supI a 2), .int .i64 (supI a 3), .int .i64 (supI a 4), .int .i64 (supI a 5), .int .i64 (supI a 6)] 85)) (cs := #[.int .i64 (supI b 0), .int .i64 (supI b 1), .int .i64 (supI b 2), .int .i64 (supI b 3), .int .i64 (supI b 4), .int .i64 (supI b 5), .int .i64 (supI b 6)]) (t := 85)
  rw [hz] at hB
  have hA2 : ∀ j, ((W.alloc (.cells #[.int .i64 (supI a 0), .int .i64 (supI a 1), .int .i64 (supI a 2), .int .i64 (supI a 3), .int .i64 (supI a 4), .int .i64 (supI a 5), .int .i64 (supI a 6)] 85)).alloc (.cells #[.int .i64 (supI b 0), .int .i64 (supI b 1), .int .i64 (supI b 2), .int .i64 (supI b 3), .int .i64 (supI b 4), .int .i64 (supI b 5), .int .i64 (supI b 6)] 85)).cell? ⟨W.heap.size, j, none⟩ = #[.int .i64 (supI a 0), .int .i64 (supI a 1), .int .i64 (supI a 2), .int .i64 (supI a 3), .int .i64 (supI a 4), .int .i64 (supI a 5), .int .i64 (supI a 6)][j]? := fun j => by
    rw [← hA j, alloc_eq_grow (W.alloc _), cell?_grow _ _ _ (by rw [hz]; exact Nat.lt_succ_self _)]
  have hg : ∃ os, (W.alloc (.cells #[.int .i64 (supI a 0), .int .i64 (supI a 1), .int .i64 (supI a 2), .int .i64 (supI a 3), .int .i64 (supI a 4), .int .i64 (supI a 5), .int .i64 (supI a 6)] 85)).alloc (.cells #[.int .i64 (supI b 0), .int .i64 (supI b 1), .int .i64 (supI b 2), .int .i64 (supI b 3), .int .i64 (supI b 4), .int .i64 (supI b 5), .int .i64 (supI b 6)] 85) = grow W os := ⟨_, by rw [alloc_eq_grow, alloc_eq_grow, grow_grow]⟩
  clear hA
  generalize (W.alloc (.cells #[.int .i64 (supI a 0), .int .i64 (supI a 1), .int .i64 (supI a 2), .int .i64 (supI a 3), .int .i64 (supI a 4), .int .i64 (supI a 5), .int .i64 (supI a 6)] 85)).alloc (.cells #[.int .i64 (supI b 0), .int .i64 (supI b 1), .int .i64 (supI b 2), .int .i64 (supI b 3), .int .i64 (supI b 4), .int .i64 (supI b 5), .int .i64 (supI b 6)] 85) = W2 at hA2 hB hg ⊢
  obtain ⟨os, hg⟩ := hg
  refine wp_region_still_tail 15 mixed (by kernel_rfl) ?_
  simp only [List.take_succ_cons, List.take_zero, List.drop_succ_cons, List.drop_zero]
  change wpStill _ _ W2.drew (fun a' => wpList _ _ _ _ a' W2.drew) _ _
  have a0 : W2.drew.cell? ⟨W.heap.size, 0, none⟩ = some (.int .i64 a.bank) := hA2 0
  have a1 : W2.drew.cell? ⟨W.heap.size, 1, none⟩ = some (.int .i64 a.epoch) := hA2 1
  have a2 : W2.drew.cell? ⟨W.heap.size, 2, none⟩ = some (.int .i64 a.denom) := hA2 2
  have b0 : W2.drew.cell? ⟨W.heap.size + 1, 0, none⟩ = some (.int .i64 b.bank) := hB 0
  have b1 : W2.drew.cell? ⟨W.heap.size + 1, 1, none⟩ = some (.int .i64 b.epoch) := hB 1
  have b2 : W2.drew.cell? ⟨W.heap.size + 1, 2, none⟩ = some (.int .i64 b.denom) := hB 2
  have hd : Hid (W2.drew = grow (W.drewN 1) os) := (show W2.drew = grow (W.drewN 1) os by rw [hg]; rfl)
  clear hA2 hB hg hz
  generalize W2.drew = W3 at *
  repeat (first | still_step | still_call (cmpI_w _ _ _))
  refine wpStill_nil ?_
  clear a0 a1 a2 b0 b1 b2
  have ho := ho W3.heap.size (W3.alloc (.cells #[.int .i64 (cmpI a.bank b.bank), .int .i64 (cmpI a.epoch b.epoch), .int .i64 (cmpI a.denom b.denom)] 3)) (alloc_cell 0) (alloc_cell 1) (alloc_cell 2)
  go_wp2_with (go_at_call 152; refine ho.mono ?_; rintro e w' ⟨rfl, rfl⟩)
  go_ret
  exact ⟨rfl, 1, os ++ #[.cells #[.int .i64 (cmpI a.bank b.bank), .int .i64 (cmpI a.epoch b.epoch), .int .i64 (cmpI a.denom b.denom)] 3], by rw [alloc_eq_grow, hd.out, grow_grow]⟩


def encS (s : Sup) : List Value := [.int .i64 s.bank, .int .i64 s.epoch, .int .i64 s.denom, .int .i64 s.issued, .int .i64 s.ret, .int .i64 s.dbl, .int .i64 s.exp]
theorem rel_fn0 {β : Book} {w : World} {F : Fn} {v : Value} (h : Rel β w (.fn F [] []) v) : v = .func F #[] #[] := by
  cases h with
  | @fn _ _ _ vf vs h1 h2 h3 h4 =>
    have e1 : vf = #[] := Array.eq_empty_of_size_eq_zero (by simpa using h1.symm)
    have e2 : vs = #[] := Array.eq_empty_of_size_eq_zero (by simpa using h3.symm)
    rw [e1, e2]
theorem encS_at {β : Book} {w : World} (s : Sup) {j : Nat} (hj : j < 7) : (∀ v, Rel β w (atL s.cells j) v → v = (encS s)[j]!) ∧ Rel β w (atL s.cells j) (encS s)[j]! ∧ ((encS s)[j]!).oneCell' = true := by
  have : j = 0 ∨ j = 1 ∨ j = 2 ∨ j = 3 ∨ j = 4 ∨ j = 5 ∨ j = 6 := by omega
  rcases this with rfl | rfl | rfl | rfl | rfl | rfl | rfl <;> exact ⟨fun v h => rel_int_inv h, .int, rfl⟩

theorem sort_c (n : Nat) (f : Nat → Sup) (hn : 0 < n) (hn' : n ≤ 100000) : Gives Tryz.prog gl0 150 [⟨7, n, true, .row fun i => (f i).cells⟩] [.osl 0 7 0 n, .fn (.func 103) [] []] (.tup []) [some ⟨7, n, true, .row fun i => (srtF n f i).cells⟩] := by
  refine ⟨⟨_, _, Tryz.func150, rfl, by kernel_rfl⟩, fun β w vs hF hG hg ha => ?_⟩
  obtain ⟨u, v, rfl, h1, h2⟩ := rels2 ha
  rw [rel_fn0 h2]
  have H0 := hG.holds 0 _ rfl
  rcases H0 with ⟨b, e1, cs, el, hb, hsz, hcell⟩ | ⟨_, h0⟩
  rotate_left
  · have h0 : n = 0 := h0
    omega
  have hsz : n * 7 ≤ cs.size := hsz
  have hcell : ∀ i j, i < n → j < 7 → ∃ v, cs[i * 7 + j]? = some v ∧ Rel β w (atL (f i).cells j) v ∧ v.oneCell' = true := hcell
  obtain ⟨cap, rfl⟩ : ∃ cap, u = .slice (some ⟨b, 0, none⟩) n cap := by
    cases h1 with
    | osl h _ _ _ _ => rw [e1] at h; cases h; exact ⟨_, by rw [Nat.zero_mul]⟩
    | osl0 h => omega
    | oslD h => rw [e1] at h; cases h
  have hlt : b < w.heap.size := (Array.getElem?_eq_some_iff.1 hb).1
  have hds : (arrS n f).size = n := arrS_size n f
  have key : ∀ t, t < n * 7 → cs[t]? = some (encS (f (t / 7)))[t % 7]! := fun t ht => by
    obtain ⟨x, x1, x2, _⟩ := hcell (t / 7) (t % 7) (by omega) (by omega)
    rw [show t / 7 * 7 + t % 7 = t by omega] at x1
    rw [x1, (encS_at (f (t / 7)) (by omega)).1 x x2]
  have hH : HoldsK encS 7 w b 0 (arrS n f) := fun t ht => by
    have ht : t < n * 7 := by simpa [hds] using ht
    refine ⟨?_, ?_⟩
    · simp only [World.cell?, hb, Nat.zero_add]
      rw [get_flatK _ _ _ _ (by rw [hds]; exact ht), arrS_at (by omega)]
      exact key t ht
    · simp only [World.frozen?, hb]; simp
  have hcon := AnyQ.slices_SortFunc_eq Tryz.sortSup 7 (fun w => isAgg_run w (show isAggT Tryz.prog 85 = some true by kernel_rfl)) (fun w => szT_run w (show szT Tryz.prog 85 = some 7 by kernel_rfl)) encS (fun _ => rfl) (fun x v hv => by
      simp only [encS, List.mem_cons, List.not_mem_nil, or_false] at hv
      rcases hv with rfl | rfl | rfl | rfl | rfl | rfl | rfl <;> rfl) cmpS swoS 103 #[] b 0 cap (arrS n f) w (enters_of Tryz.func103 (by kernel_rfl) rfl) (fun m os dk hs x y => compare_w x y _) hH hlt (by rw [hds]; omega)
  rw [hds] at hcon
  refine hcon.mono fun e w' hh => ?_
  obtain ⟨he, q, os, hw⟩ := hh
  have hb' : w'.heap[b]? = some (.cells (putCells id 0 (flatK encS 7 (srtA n f)) cs) el (0, 0)) := by
    rw [hw]
    unfold sortWorldK putRowK putRow
    rw [heap_grow_old _ _ (by simpa [mapBlock, Sort.ahead] using hlt)]
    simp only [mapBlock, Array.getElem?_modify, Sort.ahead, hb, if_true, Option.map_some, onCells]
    rfl
  have hother : ∀ k, k < w.heap.size → k ≠ b → w'.heap[k]? = w.heap[k]? := fun k hk hne => by
    rw [hw]
    unfold sortWorldK putRowK putRow
    rw [heap_grow_old _ _ (by simpa [mapBlock, Sort.ahead] using hk)]
    simp only [mapBlock, Array.getElem?_modify, Sort.ahead, if_neg (Ne.symm hne)]
  have hsize : w.heap.size ≤ w'.heap.size := by
    rw [hw]; simp [sortWorldK, grow, putRowK, putRow, mapBlock, Sort.ahead]
  have hpz : (putCells id 0 (flatK encS 7 (srtA n f)) cs).size = cs.size := by simp [putCells]
  have hput : ∀ t, t < n * 7 → (putCells id 0 (flatK encS 7 (srtA n f)) cs)[t]? = some (encS (srtF n f (t / 7)))[t % 7]! := fun t ht => by
    have hc : t < cs.size := by omega
    have hf : t < (flatK encS 7 (srtA n f)).size := by rw [size_flatK, srtA_size]; exact ht
    simp only [putCells, Array.getElem?_mapIdx, Array.getElem?_eq_getElem hc, Option.map_some, Nat.zero_add, Nat.zero_le, true_and, if_pos hf, Nat.sub_zero, id]
    rw [get_flatK _ _ _ _ (by rw [srtA_size]; exact ht)]; rfl
  have hfr : ∀ id' o', β.m id' = some o' → id' = 0 := fun id' o' h => by
    rcases Nat.lt_or_ge id' 1 with h' | h'
    · omega
    · rw [hG.none id' h'] at h; cases h
  refine ⟨_, β, he, ⟨?_, ?_, ?_, hsize, fun k hk hG' => hother k hk (fun e => hG' (e ▸ ⟨0, _, _, e1⟩)), fun k hk => ?_, fun k o hk ho => ?_⟩, ⟨rfl, fun k ob hk => ?_, hG.none, hG.inj, fun k b' m mu h => ?_, fun k o h => ⟨o, h, o.later_refl⟩⟩, ?_⟩
  · rw [hw]; rfl
  · rw [hw]; rfl
  · rw [hw]; rfl
  · by_cases e : k = b
    · subst e
      unfold World.shape?
      rw [hb', hb]
      show some (el, _) = some (el, _)
      rw [hpz]
    · exact shape_of_block (hother k hk e)
  · by_cases e : k = b
    · subst e; rw [hb] at hk; cases hk; cases ho
    · rw [hother k (Array.getElem?_eq_some_iff.1 hk).1 e]; exact hk
  · match k, hk with
    | 0, hk =>
      cases hk
      refine .inl ⟨b, e1, _, el, hb', by rw [hpz]; exact hsz, fun i j hi hj => ?_⟩
      have hi : i < n := hi
      have hj : j < 7 := hj
      have hq := hput (i * 7 + j) (by omega)
      rw [show (i * 7 + j) / 7 = i by omega, show (i * 7 + j) % 7 = j by omega] at hq
      exact ⟨_, hq, (encS_at (srtF n f i) hj).2.1, (encS_at (β := β) (w := w') (srtF n f i) hj).2.2⟩
    | k + 1, hk => simp at hk
  · obtain rfl := hfr k _ h
    rw [e1] at h
    cases h
    exact ⟨Nat.lt_of_lt_of_le hlt hsize, .inr ⟨0, _, _, e1⟩⟩
  · exact .tup rfl (fun j u v hu => by simp at hu)

def owS : FuncId → Option (List Bool) := fun f =>
  bif Nat.beq f 192 then some [false, false] else
  bif Nat.beq f 149 then some [false] else
  bif Nat.beq f 150 then some [true, false] else none
theorem collect_c (n : Nat) (f : Nat → Sup) (hn : n ≤ 100000) : Gives Tryz.prog gl0 149 [] [.fn (.func 151) [] [.ipt 1 fun _ => supA n f]] (.osl 0 7 0 n) [some ⟨7, n, true, .row fun i => (preS f (List.finRange n) i).cells⟩] := by
  have c1 := appendSeq_c n f hn
  refine gives_sk (own := owS) (hand := true) Tryz.func149 (by kernel_rfl) mixed (by kernel_rfl)
    (.gc 192 ([]) ([AV.nsl, AV.fn (Fn.func (151 : FuncId)) [] [AV.ipt (1) fun (x : Nat) => AV.isl (7) n fun (i j : Nat) => atL (Sup.cells (f i)) j]]) (AV.osl (0 : Nat) (7 : Nat) (0 : Nat) n) ([some { es := (7 : Nat), n := n, mu := true, f := Rep.row fun (i : Nat) => Sup.cells (preS f (List.finRange n) i) }]) (.out (AV.osl (0) (7) (0) n) ([some { es := 7, n := n, mu := true, f := Rep.row fun (i : Nat) => Sup.cells (preS f (List.finRange n) i) }]) (AV.osl (0 : Nat) (7 : Nat) (0 : Nat) n) ([some { es := (7 : Nat), n := n, mu := true, f := Rep.row fun (i : Nat) => Sup.cells (preS f (List.finRange n) i) }])))
    (by kernel_rfl) ?_
  refine k_gc (c1) ?_
  exact k_outg (Ent.of_eq (by first | rfl | simp_all)) (by repeat' (first | exact trivial | (first | exact ObEnt.refl _ | exact ObEnt.junk | exact ObEnt.zero | exact ObEnt.push rfl rfl | exact ObEnt.pushRow rfl | exact ObEnt.len (by omega) | exact ObEnt.row (by repeat' (first | exact trivial | (first | exact Ent.refl _ | exact inc_ent (by omega) | exact Ent.nil rfl | exact Ent.of_eq (congrArg (AV.osl _ _ _) (by first | omega | (dsimp only; omega))) | exact Ent.of_eq (congrArg (AV.int _) (by first | omega | (dsimp only; omega)))) | refine And.intro ?_ ?_))) | refine And.intro ?_ ?_))
theorem sorted_c (n : Nat) (f : Nat → Sup) (hn0 : 0 < n) (hn : n ≤ 100000) : Pure Tryz.prog gl0 101 [.fn (.func 151) [] [.ipt 1 fun _ => supA n f], .fn (.func 103) [] []] (supA n (srtF n (preS f (List.finRange n)))) := by
  have c1 := collect_c n f hn
  have c2 := sort_c n (preS f (List.finRange n)) hn0 hn
  refine pure_sk (own := owS) Tryz.func101 (by kernel_rfl) mixed (by kernel_rfl)
    (.gc 149 ([]) ([AV.fn (Fn.func (151 : FuncId)) [] [AV.ipt (1) fun (x : Nat) => AV.isl (7) n fun (i j : Nat) => atL (Sup.cells (f i)) j]]) (AV.osl (0 : Nat) (7 : Nat) (0 : Nat) n) ([some { es := (7 : Nat), n := n, mu := true, f := Rep.row fun (i : Nat) => Sup.cells (preS f (List.finRange n) i) }]) (.gc 150 ([{ es := 7, n := n, mu := true, f := Rep.row fun (i : Nat) => Sup.cells (preS f (List.finRange n) i) }]) ([AV.osl (0) (7) (0) n, AV.fn (Fn.func (103 : FuncId)) [] []]) (AV.tup []) ([some { es := (7 : Nat), n := n, mu := true, f := Rep.row fun (i : Nat) => Sup.cells (srtF n (preS f (List.finRange n)) i) }]) (.out (AV.isl (7) n fun (r k : Nat) => atL (Sup.cells (srtF n (preS f (List.finRange n)) (r + (0 : Nat)))) k) [] (supA n (srtF n (preS f (List.finRange n)))) [])))
    (by kernel_rfl) ?_
  refine k_gc (c1) ?_
  refine k_gc (c2) ?_
  exact k_out (Ent.of_eq (by first | rfl | simp_all))

end Go.Proofs.YtbmdmoknnlhdoaaGreatDoor.U

namespace Go.Proofs.YtbmdmoknnlhdoaaGreatDoor.U
open Go Go.Am Go.Sp Go.Sort
set_option maxRecDepth 100000

def owT (n : Nat) : FuncId → Option (List Bool) := fun f => bif Nat.beq f 999999999 then some (List.replicate n true) else
  bif Nat.beq f 223 then some [true, false, false, false] else
  bif Nat.beq f 193 then some [true, false, false, false, false] else owS f
theorem len64_0 : Pure Tryz.prog gl0 198 [.int .u64 0] (.int .i64 0) := by
  refine pure_sk (own := (owT 5)) Tryz.func198 (by kernel_rfl) mixed (by kernel_rfl)
    (.ff (.ff (.ff (.req ((0 : Int) ≤ IntKind.wrap IntKind.u8 (0 : Int) ∧ IntKind.wrap IntKind.u8 (0 : Int) < (↑(256) : Int)) (.out (Zi (IntKind.wrap IntKind.i64 ((0 : Int) + IntKind.wrap IntKind.i64 (↑(0) : Int)))) [] (Zi 0) [])))))
    (by kernel_rfl) ?_
  refine k_ff ?_
  refine k_ff ?_
  refine k_ff ?_
  refine k_req (by decide) ?_
  exact k_out (Ent.of_eq (by first | rfl | simp_all))
theorem len_0 : Pure Tryz.prog gl0 194 [.int .u64 0] (.int .i64 0) := by
  refine pure_sk (own := ow0) Tryz.func194 (by kernel_rfl) mixed (by kernel_rfl)
    (.ff (.sc (true) 198 ([Zu 0]) (Zi 0) (.out (Zi 0) [] (Zi 0) [])))
    (by kernel_rfl) ?_
  refine k_ff ?_
  refine k_sc (len64_0) ?_
  exact k_out (Ent.of_eq (by first | rfl | simp_all))
theorem ins_0 (R : Nat → Sup) : Gives Tryz.prog gl0 223 [⟨7, 0, true, .row fun i => (R i).cells⟩] [.osl 0 7 0 0, .int .i64 0, .int .i64 0, .fn (.func 103) [] []] (.tup []) [some ⟨7, 0, true, .row fun i => (R i).cells⟩] := by
  refine gives_sk (own := (owT 2)) (hand := true) Tryz.func223 (by kernel_rfl) mixed (by kernel_rfl)
    (.ff (.out (AV.tup []) ([some { es := 7, n := 0, mu := true, f := Rep.row fun (i : Nat) => Sup.cells (R i) }]) (AV.tup []) ([some { es := (7 : Nat), n := (0 : Nat), mu := true, f := Rep.row fun (i : Nat) => Sup.cells (R i) }])))
    (by kernel_rfl) ?_
  refine k_ff ?_
  exact k_outg (Ent.of_eq (by first | rfl | simp_all)) (by repeat' (first | exact trivial | (first | exact ObEnt.refl _ | exact ObEnt.junk | exact ObEnt.zero | exact ObEnt.push rfl rfl | exact ObEnt.pushRow rfl | exact ObEnt.len (by omega) | exact ObEnt.row (by repeat' (first | exact trivial | (first | exact Ent.refl _ | exact inc_ent (by omega) | exact Ent.nil rfl | exact Ent.of_eq (congrArg (AV.osl _ _ _) (by first | omega | (dsimp only; omega))) | exact Ent.of_eq (congrArg (AV.int _) (by first | omega | (dsimp only; omega)))) | refine And.intro ?_ ?_))) | refine And.intro ?_ ?_))
theorem pdq_0 (R : Nat → Sup) : Gives Tryz.prog gl0 193 [⟨7, 0, true, .row fun i => (R i).cells⟩] [.osl 0 7 0 0, .int .i64 0, .int .i64 0, .int .i64 0, .fn (.func 103) [] []] (.tup []) [some ⟨7, 0, true, .row fun i => (R i).cells⟩] := by
  have c := ins_0 R
  refine gives_sk (own := (owT 2)) (hand := true) Tryz.func193 (by kernel_rfl) mixed (by kernel_rfl)
    (.tt (.gc 223 ([{ es := 7, n := 0, mu := true, f := Rep.row fun (i : Nat) => Sup.cells (R i) }]) ([AV.osl (0) (7) (0) (0), Zi 0, Zi 0, AV.fn (Fn.func (103 : FuncId)) [] []]) (AV.tup []) ([some { es := (7 : Nat), n := (0 : Nat), mu := true, f := Rep.row fun (i : Nat) => Sup.cells (R i) }]) (.out (AV.tup []) ([some { es := 7, n := 0, mu := true, f := Rep.row fun (i : Nat) => Sup.cells (R i) }]) (AV.tup []) ([some { es := (7 : Nat), n := (0 : Nat), mu := true, f := Rep.row fun (i : Nat) => Sup.cells (R i) }]))))
    (by kernel_rfl) ?_
  refine k_tt ?_
  refine k_gc (c) ?_
  exact k_outg (Ent.of_eq (by first | rfl | simp_all)) (by repeat' (first | exact trivial | (first | exact ObEnt.refl _ | exact ObEnt.junk | exact ObEnt.zero | exact ObEnt.push rfl rfl | exact ObEnt.pushRow rfl | exact ObEnt.len (by omega) | exact ObEnt.row (by repeat' (first | exact trivial | (first | exact Ent.refl _ | exact inc_ent (by omega) | exact Ent.nil rfl | exact Ent.of_eq (congrArg (AV.osl _ _ _) (by first | omega | (dsimp only; omega))) | exact Ent.of_eq (congrArg (AV.int _) (by first | omega | (dsimp only; omega)))) | refine And.intro ?_ ?_))) | refine And.intro ?_ ?_))
theorem sort_0 (R : Nat → Sup) : Gives Tryz.prog gl0 150 [⟨7, 0, true, .row fun i => (R i).cells⟩] [.osl 0 7 0 0, .fn (.func 103) [] []] (.tup []) [some ⟨7, 0, true, .row fun i => (R i).cells⟩] := by
  have c := pdq_0 R
  refine gives_sk (own := (owT 2)) (hand := true) Tryz.func150 (by kernel_rfl) mixed (by kernel_rfl)
    (.sc (true) 194 ([Zu (IntKind.wrap IntKind.u64 (↑(0) : Int))]) (Zi 0) (.gc 193 ([{ es := 7, n := 0, mu := true, f := Rep.row fun (i : Nat) => Sup.cells (R i) }]) ([AV.osl (0) (7) (0) (0), Zi 0, Zi (↑(0) : Int), Zi 0, AV.fn (Fn.func (103 : FuncId)) [] []]) (AV.tup []) ([some { es := (7 : Nat), n := (0 : Nat), mu := true, f := Rep.row fun (i : Nat) => Sup.cells (R i) }]) (.out (AV.tup []) ([some { es := 7, n := 0, mu := true, f := Rep.row fun (i : Nat) => Sup.cells (R i) }]) (AV.tup []) ([some { es := (7 : Nat), n := (0 : Nat), mu := true, f := Rep.row fun (i : Nat) => Sup.cells (R i) }]))))
    (by kernel_rfl) ?_
  refine k_sc (len_0) ?_
  refine k_gc (c) ?_
  exact k_outg (Ent.of_eq (by first | rfl | simp_all)) (by repeat' (first | exact trivial | (first | exact ObEnt.refl _ | exact ObEnt.junk | exact ObEnt.zero | exact ObEnt.push rfl rfl | exact ObEnt.pushRow rfl | exact ObEnt.len (by omega) | exact ObEnt.row (by repeat' (first | exact trivial | (first | exact Ent.refl _ | exact inc_ent (by omega) | exact Ent.nil rfl | exact Ent.of_eq (congrArg (AV.osl _ _ _) (by first | omega | (dsimp only; omega))) | exact Ent.of_eq (congrArg (AV.int _) (by first | omega | (dsimp only; omega)))) | refine And.intro ?_ ?_))) | refine And.intro ?_ ?_))
theorem sorted_0 (f : Nat → Sup) : Pure Tryz.prog gl0 101 [.fn (.func 151) [] [.ipt 1 fun _ => supA 0 f], .fn (.func 103) [] []] (supA 0 f) := by
  have c1 := collect_c 0 f (by omega)
  have c2 := sort_0 (preS f (List.finRange 0))
  refine pure_sk (own := owS) Tryz.func101 (by kernel_rfl) mixed (by kernel_rfl)
    (.gc 149 ([]) ([AV.fn (Fn.func (151 : FuncId)) [] [AV.ipt (1) fun (x : Nat) => AV.isl (7) (0) fun (i j : Nat) => atL (Sup.cells (f i)) j]]) (AV.osl (0 : Nat) (7 : Nat) (0 : Nat) (0 : Nat)) ([some { es := (7 : Nat), n := (0 : Nat), mu := true, f := Rep.row fun (i : Nat) => Sup.cells (preS f (List.finRange (0 : Nat)) i) }]) (.gc 150 ([{ es := 7, n := 0, mu := true, f := Rep.row fun (i : Nat) => Sup.cells (preS f (List.finRange (0 : Nat)) i) }]) ([AV.osl (0) (7) (0) (0), AV.fn (Fn.func (103 : FuncId)) [] []]) (AV.tup []) ([some { es := (7 : Nat), n := (0 : Nat), mu := true, f := Rep.row fun (i : Nat) => Sup.cells (preS f (List.finRange (0 : Nat)) i) }]) (.out (AV.isl (7) (0) fun (r k : Nat) => atL [Zi default, Zi default, Zi default, Zi default, Zi default, Zi default, Zi default] k) [] (supA (0 : Nat) f) [])))
    (by kernel_rfl) ?_
  refine k_gc (c1) ?_
  refine k_gc (c2) ?_
  exact k_out (Ent.isl fun i j hi _ => absurd hi (Nat.not_lt_zero i))

end Go.Proofs.YtbmdmoknnlhdoaaGreatDoor.U

namespace Go.Proofs.YtbmdmoknnlhdoaaGreatDoor.U
open Go Go.Am Go.Sp
set_option maxRecDepth 100000

theorem sorted_all (n : Nat) (f : Nat → Sup) (hn : n ≤ 100000) : Pure Tryz.prog gl0 101 [.fn (.func 151) [] [.ipt 1 fun _ => supA n f], .fn (.func 103) [] []] (supA n (srtF n f)) := by
  by_cases h : n = 0
  · subst h
    exact (sorted_0 f).ent (Ent.isl fun i j hi _ => absurd hi (Nat.not_lt_zero i))
  · have := sorted_c n f (by omega) hn
    rwa [srtF_congr (fun i hi => preS_fin hi)] at this
theorem proper_c (n : Nat) (f : Nat → Sup) (hn : n ≤ 100000) : Pure Tryz.prog gl0 62 [supA n f] (.bool (listB n f)) := by
  have c1 := containsS_w 100 f n (fun i => !validS (f i)) (by omega) (fun i _ => not2_c (f i))
  have c2 := values_c n f
  have c3 := sorted_all n f hn
  refine pure_sk (own := ow0) Tryz.func62 (by kernel_rfl) mixed (by kernel_rfl)
    (.sc (decide ((↑n : Int) > (1000 : Int)) == false) 99 ([AV.isl (7) n fun (i j : Nat) => atL (Sup.cells (f i)) j, AV.fn (Fn.func (100 : Nat)) [] []]) (AV.bool (anyI (fun (i : Nat) => !validS (f i)) n)) (.br (decide ((↑n : Int) > (1000 : Int)) || anyI (fun (i : Nat) => !validS (f i)) n) (.out (AV.bool false) [] (AV.bool (listB n f)) []) (.dc (true) 102 ([AV.isl (7) n fun (i j : Nat) => atL (Sup.cells (f i)) j]) (AV.fn (Fn.func (151 : FuncId)) [] [AV.ipt (1 : Nat) fun (x : Nat) => supA n f]) (.dc (true) 101 ([AV.fn (Fn.func (151 : FuncId)) [] [AV.ipt (1) fun (x : Nat) => AV.isl (7) n fun (i j : Nat) => atL (Sup.cells (f i)) j], AV.fn (Fn.func (103 : Nat)) [] []]) (supA n (srtF n f)) (.loop ({ x : Nat // x ≤ n ∧ (fun (x : Nat) => ∀ (i : Nat), i + (1 : Nat) < x → cmpS (srtF n f i) (srtF n f (i + (1 : Nat))) ≠ (0 : Int)) x }) (fun (x : { x : Nat // x ≤ n ∧ (fun (x : Nat) => ∀ (i : Nat), i + (1 : Nat) < x → cmpS (srtF n f i) (srtF n f (i + (1 : Nat))) ≠ (0 : Int)) x }) => mkSt [3, 16, 17] [AV.isl (7) n fun (i j : Nat) => atL (Sup.cells (srtF n f i)) j, Zi (↑n : Int), Zi (↑(x.1) : Int)] []) (fun (x : { x : Nat // x ≤ n ∧ (fun (x : Nat) => ∀ (i : Nat), i + (1 : Nat) < x → cmpS (srtF n f i) (srtF n f (i + (1 : Nat))) ≠ (0 : Int)) x }) => n - x.1) (⟨(0 : Nat), ⟨Nat.zero_le n, fun (i : Nat) (hi : i + (1 : Nat) < (0 : Nat)) => absurd hi (Nat.not_lt_zero (i + (1 : Nat)))⟩⟩) ([3, 16, 17]) ([]) ([AV.isl (7) n fun (i j : Nat) => atL (Sup.cells (srtF n f i)) j, Zi (↑n : Int), Zi 0]) ([]) (fun x5 => (.br (decide ((↑x5.1 : Int) < (↑n : Int))) (.req ((decide ((↑x5.1 : Int) > (0 : Int)) == true) = true → (0 : Int) ≤ IntKind.wrap IntKind.i64 ((↑x5.1 : Int) - (1 : Int)) ∧ IntKind.wrap IntKind.i64 ((↑x5.1 : Int) - (1 : Int)) < (↑n : Int)) (.req ((decide ((↑x5.1 : Int) > (0 : Int)) == true) = true → (0 : Int) ≤ (↑x5.1 : Int) ∧ (↑x5.1 : Int) < (↑n : Int)) (.sc (decide ((↑x5.1 : Int) > (0 : Int)) == true) 103 ([AV.agg (Sup.cells (srtF n f (Int.toNat (IntKind.wrap IntKind.i64 ((↑(x5.1) : Int) - (1 : Int)))))), AV.agg (Sup.cells (srtF n f (Int.toNat (↑(x5.1) : Int))))]) (Zi (cmpS (srtF n f (Int.toNat (IntKind.wrap IntKind.i64 ((↑(x5.1) : Int) - (1 : Int))))) (srtF n f (Int.toNat (↑(x5.1) : Int))))) (.br (decide ((↑x5.1 : Int) > (0 : Int)) && cmpS (srtF n f (Int.toNat (IntKind.wrap IntKind.i64 ((↑x5.1 : Int) - (1 : Int))))) (srtF n f (Int.toNat (↑x5.1 : Int))) == (0 : Int)) (.out (AV.bool false) [] (AV.bool (listB n f)) []) (.again (Again (0) (fun (x : { x : Nat // x ≤ n ∧ (fun (x : Nat) => ∀ (i : Nat), i + (1 : Nat) < x → cmpS (srtF n f i) (srtF n f (i + (1 : Nat))) ≠ (0 : Int)) x }) => mkSt [3, 16, 17] [AV.isl (7) n fun (i j : Nat) => atL (Sup.cells (srtF n f i)) j, Zi (↑n : Int), Zi (↑(x.1) : Int)] []) (fun (x : { x : Nat // x ≤ n ∧ (fun (x : Nat) => ∀ (i : Nat), i + (1 : Nat) < x → cmpS (srtF n f i) (srtF n f (i + (1 : Nat))) ≠ (0 : Int)) x }) => n - x.1) x5) ([3, 16, 17]) ([]) ([AV.isl (7) n fun (i j : Nat) => atL (Sup.cells (srtF n f i)) j, Zi (↑n : Int), Zi (IntKind.wrap IntKind.i64 ((↑x5.1 : Int) + (1 : Int)))]) ([])))))) (.out (AV.bool true) [] (AV.bool (listB n f)) []))))))))
    (by kernel_rfl) ?_
  refine k_scg (fun h0 => c1) ?_
  refine k_br (fun h1 => ?_) (fun h1 => ?_)
  · have g1 := (cnd_or_t cnd_dec_t cnd_id_t) h1
    exact k_out (Ent.of_eq (congrArg AV.bool (list_bad g1).symm))
  · have g1 := (cnd_or_f cnd_dec_f cnd_id_f) h1
    refine k_dc (c2) ?_
    refine k_dc (c3) ?_
    refine k_loop (fun _ hs => hs.le (by repeat' (first | exact trivial | (first | exact Ent.refl _ | exact inc_ent (by omega) | exact Ent.nil rfl | exact Ent.of_eq (congrArg (AV.osl _ _ _) (by first | omega | (dsimp only; omega))) | exact Ent.of_eq (congrArg (AV.int _) (by first | omega | (dsimp only; omega)))) | refine And.intro ?_ ?_)) (trivial)) (fun x5 => ?_)
    try (have q5 := x5.2; dsimp only at q5)
    have e1 := wI (n := (x5.1 : Int) - 1) (by omega) (by omega)
    refine k_br (fun h6 => ?_) (fun h6 => ?_)
    · have g6 := cnd_dec_t h6
      refine k_req (fun hr => by have hr := (cnd_eqt_t cnd_dec_t) hr; first | omega | (simp only [Int.toNat_natCast] at *; omega)) ?_
      refine k_req (fun hr => by have hr := (cnd_eqt_t cnd_dec_t) hr; first | omega | (simp only [Int.toNat_natCast] at *; omega)) ?_
      refine k_scg (fun h9 => compare_c (srtF n f (Int.toNat (IntKind.wrap IntKind.i64 ((↑(x5.1) : Int) - (1 : Int))))) (srtF n f (Int.toNat (↑(x5.1) : Int)))) ?_
      refine k_br (fun h10 => ?_) (fun h10 => ?_)
      · have g10 := (cnd_and_t cnd_dec_t cnd_beq_t) h10
        try simp only [Int.toNat_natCast] at g10
        exact k_out (Ent.of_eq (congrArg AV.bool (list_srt_no (i := x5.1 - 1) (by omega) (by have g := g10.2; rw [e1, show ((x5.1 : Int) - 1).toNat = x5.1 - 1 by omega] at g; rw [show x5.1 - 1 + 1 = x5.1 by omega]; exact g)).symm))
      · have g10 := (cnd_and_f cnd_dec_f cnd_beq_f) h10
        try simp only [Int.toNat_natCast] at g10
        exact k_again (⟨x5.1 + 1, by omega, fun i hi => by rcases Nat.lt_succ_iff_lt_or_eq.1 hi with h | h; (· exact q5.2 i h); (· intro e; rcases g10 with g | g; (· omega); (· rw [e1, show ((x5.1 : Int) - 1).toNat = i by omega] at g; rw [h] at e; exact g e))⟩) (fun _ hs => hs.le (by repeat' (first | exact trivial | (first | exact Ent.refl _ | exact inc_ent (by omega) | exact Ent.nil rfl | exact Ent.of_eq (congrArg (AV.osl _ _ _) (by first | omega | (dsimp only; omega))) | exact Ent.of_eq (congrArg (AV.int _) (by first | omega | (dsimp only; omega)))) | refine And.intro ?_ ?_)) (trivial)) (by first | omega | (dsimp only; omega) | (simp; omega))
    · have g6 := cnd_dec_f h6
      exact k_out (Ent.of_eq (congrArg AV.bool (list_srt (by omega) (fun i hi => by simpa using anyI_f g1.2 i hi) (fun i hi => q5.2 i (by omega))).symm))


theorem outg_c (s : Sup) : Pure Tryz.prog gl0 27 [.agg s.cells] (.tup [.int .i64 (outV s), .int .i64 (outE s)]) := by
  refine pure_sk (own := ow0) Tryz.func27 (by kernel_rfl) mixed (by kernel_rfl)
    (.sc (true) 63 ([AV.agg (Sup.cells s)]) (Zi (leftS s)) (.sc (true) 64 ([AV.agg (Sup.cells s)]) (AV.bool (validS s)) (.br (!validS s) (.out (AV.tup [Zi 0, Zi 1]) [] (AV.tup [Zi (outV s), Zi (outE s)]) []) (.br (decide (leftS s < (0 : Int))) (.out (AV.tup [Zi 0, Zi 17]) [] (AV.tup [Zi (outV s), Zi (outE s)]) []) (.out (AV.tup [Zi (leftS s), Zi 0]) [] (AV.tup [Zi (outV s), Zi (outE s)]) [])))))
    (by kernel_rfl) ?_
  refine k_sc (outst_c (s)) ?_
  refine k_sc (valid_c (s)) ?_
  refine k_br (fun h2 => ?_) (fun h2 => ?_)
  · have g2 := (cnd_not_t cnd_id_f) h2
    exact k_out (Ent.of_eq (by first | rw [outV_1 g2, outE_1 g2] | rw [outV_2 g2 g4, outE_2 g2 g4] | rw [outV_3 g2 g4, outE_3 g2 g4]))
  · have g2 := (cnd_not_f cnd_id_t) h2
    refine k_br (fun h4 => ?_) (fun h4 => ?_)
    · have g4 := cnd_dec_t h4
      exact k_out (Ent.of_eq (by first | rw [outV_1 g2, outE_1 g2] | rw [outV_2 g2 g4, outE_2 g2 g4] | rw [outV_3 g2 g4, outE_3 g2 g4]))
    · have g4 := cnd_dec_f h4
      exact k_out (Ent.of_eq (by first | rw [outV_1 g2, outE_1 g2] | rw [outV_2 g2 g4, outE_2 g2 g4] | rw [outV_3 g2 g4, outE_3 g2 g4]))
theorem sum_c (n : Nat) (f : Nat → Sup) (hn : n ≤ 100000) : Pure Tryz.prog gl0 26 [supA n f] (.tup [.int .i64 (smV n f), .int .i64 (smE n f)]) := by
  have c1 := proper_c n f hn
  refine pure_sk (own := ow0) Tryz.func26 (by kernel_rfl) mixed (by kernel_rfl)
    (.sc (true) 62 ([AV.isl (7) n fun (i j : Nat) => atL (Sup.cells (f i)) j]) (AV.bool (listB n f)) (.br (!listB n f) (.out (AV.tup [Zi 0, Zi 1]) [] (AV.tup [Zi (smV n f), Zi (smE n f)]) []) (.loop ({ x : Nat // x ≤ n ∧ (fun (x : Nat) => ∀ (i : Nat), i < x → ¬leftS (f i) < (0 : Int)) x }) (fun (x : { x : Nat // x ≤ n ∧ (fun (x : Nat) => ∀ (i : Nat), i < x → ¬leftS (f i) < (0 : Int)) x }) => mkSt [12, 13, 4, 14] [AV.isl (7) n fun (i j : Nat) => atL (Sup.cells (f i)) j, Zi (↑n : Int), Zi (sumN f (x.1)), Zi (↑(x.1) : Int)] []) (fun (x : { x : Nat // x ≤ n ∧ (fun (x : Nat) => ∀ (i : Nat), i < x → ¬leftS (f i) < (0 : Int)) x }) => n - x.1) (⟨(0 : Nat), ⟨Nat.zero_le n, fun (i : Nat) (hi : i < (0 : Nat)) => absurd hi (Nat.not_lt_zero i)⟩⟩) ([12, 13, 4, 14]) ([]) ([AV.isl (7) n fun (i j : Nat) => atL (Sup.cells (f i)) j, Zi (↑n : Int), Zi 0, Zi 0]) ([]) (fun x3 => (.br (decide ((↑x3.1 : Int) < (↑n : Int))) (.req ((0 : Int) ≤ (↑x3.1 : Int) ∧ (↑x3.1 : Int) < (↑n : Int)) (.sc (true) 27 ([AV.agg (Sup.cells (f (Int.toNat (↑(x3.1) : Int))))]) (AV.tup [Zi (outV (f (Int.toNat (↑(x3.1) : Int)))), Zi (outE (f (Int.toNat (↑(x3.1) : Int))))]) (.br (outE (f (Int.toNat (↑x3.1 : Int))) != (0 : Int)) (.out (AV.tup [Zi 0, Zi (outE (f (Int.toNat (↑x3.1 : Int))))]) [] (AV.tup [Zi (smV n f), Zi (smE n f)]) []) (.again (Again (0) (fun (x : { x : Nat // x ≤ n ∧ (fun (x : Nat) => ∀ (i : Nat), i < x → ¬leftS (f i) < (0 : Int)) x }) => mkSt [12, 13, 4, 14] [AV.isl (7) n fun (i j : Nat) => atL (Sup.cells (f i)) j, Zi (↑n : Int), Zi (sumN f (x.1)), Zi (↑(x.1) : Int)] []) (fun (x : { x : Nat // x ≤ n ∧ (fun (x : Nat) => ∀ (i : Nat), i < x → ¬leftS (f i) < (0 : Int)) x }) => n - x.1) x3) ([12, 13, 4, 14]) ([]) ([AV.isl (7) n fun (i j : Nat) => atL (Sup.cells (f i)) j, Zi (↑n : Int), Zi (IntKind.wrap IntKind.i64 (sumN f x3.1 + outV (f (Int.toNat (↑x3.1 : Int))))), Zi (IntKind.wrap IntKind.i64 ((↑x3.1 : Int) + (1 : Int)))]) ([]))))) (.out (AV.tup [Zi (sumN f x3.1), Zi 0]) [] (AV.tup [Zi (smV n f), Zi (smE n f)]) []))))))
    (by kernel_rfl) ?_
  refine k_sc (c1) ?_
  refine k_br (fun h1 => ?_) (fun h1 => ?_)
  · have g1 := (cnd_not_t cnd_id_f) h1
    exact k_out (Ent.of_eq (by rw [(sm_1 g1).1, (sm_1 g1).2]))
  · have g1 := (cnd_not_f cnd_id_t) h1
    refine k_loop (fun _ hs => hs.le (by repeat' (first | exact trivial | (first | exact Ent.refl _ | exact inc_ent (by omega) | exact Ent.nil rfl | exact Ent.of_eq (congrArg (AV.osl _ _ _) (by first | omega | (dsimp only; omega))) | exact Ent.of_eq (congrArg (AV.int _) (by first | omega | (dsimp only; omega)))) | refine And.intro ?_ ?_)) (trivial)) (fun x3 => ?_)
    try (have q3 := x3.2; dsimp only at q3)
    refine k_br (fun h4 => ?_) (fun h4 => ?_)
    · have g4 := cnd_dec_t h4
      refine k_req (by first | omega | (simp only [Int.toNat_natCast]; omega)) ?_
      refine k_sc (outg_c (f (Int.toNat (↑(x3.1) : Int)))) ?_
      refine k_br (fun h7 => ?_) (fun h7 => ?_)
      · have g7 := cnd_bne_t h7
        try simp only [Int.toNat_natCast] at g7
        exact k_out (Ent.of_eq (by obtain ⟨k1, k2⟩ := outE_ne (list_val g1 (i := x3.1) (by omega)) g7; simp only [Int.toNat_natCast]; rw [(sm_2 g1 (i := x3.1) (by omega) k1).1, (sm_2 g1 (i := x3.1) (by omega) k1).2, k2]))
      · have g7 := cnd_bne_f h7
        try simp only [Int.toNat_natCast] at g7
        exact k_again (⟨x3.1 + 1, by omega, snoc_all x3.2.2 (outE_eq (list_val g1 (i := x3.1) (by omega)) g7).1⟩) (fun _ hs => hs.le (⟨Ent.refl _, Ent.refl _, Ent.of_eq (congrArg (AV.int _) (by simp only [Int.toNat_natCast]; rw [(outE_eq (list_val g1 (i := x3.1) (by omega)) g7).2]; rfl)), inc_ent (by omega), trivial⟩) (trivial)) (by first | omega | (dsimp only; omega) | (simp; omega))
    · have g4 := cnd_dec_f h4
      exact k_out (Ent.of_eq (by rw [(sm_3 g1 (fun i hi => x3.2.2 i (by omega))).1, (sm_3 g1 (fun i hi => x3.2.2 i (by omega))).2, show x3.1 = n by have := x3.2.1; omega]))
end Go.Proofs.YtbmdmoknnlhdoaaGreatDoor.U

namespace Go.Proofs.YtbmdmoknnlhdoaaGreatDoor.N
open Go Go.Am Go.Sp Go.Lib Go.RowKit Go.Shelf
set_option maxRecDepth 100000

theorem pure_mono {P : Program} {gl gl' : Globs} {f : FuncId} {args : List AV} {r : AV} (h : Am.Pure P gl f args r) (hs : ∀ g m x, gl g = some (m, x) → gl' g = some (m, x)) : Am.Pure P gl' f args r :=
  ⟨h.1, fun β w vs hF hG hg ha => h.2 β w vs hF hG (fun g m x e => hg g m x (hs g m x e)) ha⟩
theorem sum_l (m : GP) (n : Nat) (f : Nat → Sup) (hn : n ≤ 100000) : Pure Tryz.prog (gl0 m) 26 [supA n f] (.tup [.int .i64 (smV n f), .int .i64 (smE n f)]) := pure_mono (U.sum_c n f hn) (fun _ _ _ h => by cases h)
theorem outg_l (m : GP) (s : Sup) : Pure Tryz.prog (gl0 m) 27 [.agg s.cells] (.tup [.int .i64 (outV s), .int .i64 (outE s)]) := pure_mono (U.outg_c s) (fun _ _ _ h => by cases h)
def litP (l : List Part) : AV := .isl 1 l.length fun r k => atL (List.getD (l.map fun p => [p.a]) r []) k
theorem litP_e {os : List (Option Ob)} (l : List Part) : Ent os (litP l) (.isl 1 l.length fun i _ => (l.getD i default).a) := Ent.isl fun i j hi hj => by
  obtain rfl : j = 0 := by omega
  show atL (List.getD (l.map fun p => [p.a]) i []) 0 = (l.getD i default).a
  rw [List.getD_eq_getElem?_getD, List.getElem?_map, List.getElem?_eq_getElem hi, List.getD_eq_getElem?_getD, List.getElem?_eq_getElem hi]; rfl
theorem lineP (m : GP) (l : List Part) (hok : ∀ p ∈ l, p.ok) (hl : l.length ≤ 1000) (hz : l ≠ []) : Pure Tryz.prog (gl0 m) 28 [litP l] (.str (bs (flatP l l.length ++ [10]))) :=
  (line_c m l hok hl hz).via (args := [litP l]) ⟨litP_e l, trivial⟩
def supP (s : Sup) (n : Int) : List Part := [.s [98, 97, 110, 107, 32], .n s.bank, .s [32, 101, 112, 111, 99, 104, 32], .n s.epoch, .s [32, 100, 101, 110, 111, 109, 105, 110, 97, 116, 105, 111, 110, 32], .n s.denom, .s [58, 32, 105, 115, 115, 117, 101, 100, 32], .n s.issued, .s [44, 32, 114, 101, 116, 117, 114, 110, 101, 100, 32], .n s.ret, .s [44, 32, 100, 111, 117, 98, 108, 101, 32], .n s.dbl, .s [44, 32, 101, 120, 112, 105, 114, 101, 100, 32], .n s.exp, .s [44, 32, 111, 117, 116, 115, 116, 97, 110, 100, 105, 110, 103, 32], .n n]
def totP (n : Int) : List Part := [.s [116, 111, 116, 97, 108, 32], .n n]
def supLn (s : Sup) (n : Int) : Str := flatP (supP s n) 16 ++ [10]
def totLn (n : Int) : Str := flatP (totP n) 2 ++ [10]
theorem supP_ok {s : Sup} {n : Int} (h : s.R) (hn : I64 n) : ∀ p ∈ supP s n, p.ok := by
  obtain ⟨h1, h2, h3, h4, h5, h6, h7⟩ := h
  intro p hp
  simp only [supP, List.mem_cons, List.not_mem_nil, or_false] at hp
  rcases hp with rfl | rfl | rfl | rfl | rfl | rfl | rfl | rfl | rfl | rfl | rfl | rfl | rfl | rfl | rfl | rfl
  all_goals first | exact h1 | exact h2 | exact h3 | exact h4 | exact h5 | exact h6 | exact h7 | exact hn | exact Nat.le_of_ble_eq_true rfl
theorem totP_ok {n : Int} (hn : I64 n) : ∀ p ∈ totP n, p.ok := by
  intro p hp
  simp only [totP, List.mem_cons, List.not_mem_nil, or_false] at hp
  rcases hp with rfl | rfl
  · exact Nat.le_of_ble_eq_true rfl
  · exact hn
theorem lineS (m : GP) (s : Sup) (n : Int) (h : s.R) (hn : I64 n) : Pure Tryz.prog (gl0 m) 28 [litP (supP s n)] (.str (bs (supLn s n))) := lineP m (supP s n) (supP_ok h hn) (by show 16 ≤ 1000; decide) (by unfold supP; simp)
theorem lineT (m : GP) (n : Int) (hn : I64 n) : Pure Tryz.prog (gl0 m) 28 [litP (totP n)] (.str (bs (totLn n))) := lineP m (totP n) (totP_ok hn) (by show 2 ≤ 1000; decide) (by unfold totP; simp)
def repF (f : Nat → Sup) : Nat → Str
  | 0 => []
  | k + 1 => repF f k ++ supLn (f k) (leftS (f k))
theorem wrap_R (n : Int) : I64 (IntKind.wrap .i64 n) := by
  unfold I64; simp only [IntKind.wrap, IntKind.bits, IntKind.signed]; simp; omega
theorem valid_R {s : Sup} (h : validS s = true) : s.R := by
  simp only [validS, amtB, Bool.and_eq_true, decide_eq_true_eq] at h
  unfold Sup.R I64; omega
theorem sumN_R (f : Nat → Sup) : ∀ n, I64 (sumN f n)
  | 0 => (by unfold I64; decide : I64 0)
  | n + 1 => wrap_R _
theorem smV_R (n : Nat) (f : Nat → Sup) : I64 (smV n f) := by
  unfold smV
  split
  · unfold I64; decide
  · exact sumN_R f n
theorem outV_R (s : Sup) : I64 (outV s) := by
  unfold outV
  split
  · unfold I64; decide
  · split
    · unfold I64; decide
    · exact wrap_R _
theorem supLn_le {s : Sup} {n : Int} (h : s.R) (hn : I64 n) : (supLn s n).length ≤ 1600001 := by
  have := flat_le (supP_ok h hn) 16 (Nat.le_refl _)
  unfold supLn; rw [List.length_append]; simp; omega
theorem totLn_le {n : Int} (hn : I64 n) : (totLn n).length ≤ 200001 := by
  have := flat_le (totP_ok hn) 2 (Nat.le_refl _)
  unfold totLn; rw [List.length_append]; simp; omega
theorem rep_le {f : Nat → Sup} {n : Nat} (h : ∀ i, i < n → (f i).R) : ∀ k, k ≤ n → (repF f k).length ≤ k * 1600001
  | 0, _ => Nat.le_refl _
  | k + 1, hk => by
    have h1 := rep_le h k (by omega)
    have h2 := supLn_le (h k (by omega)) (wrap_R (IntKind.wrap .i64 (IntKind.wrap .i64 ((f k).issued - (f k).ret) + (f k).dbl) - (f k).exp))
    have h2 : (supLn (f k) (leftS (f k))).length ≤ 1600001 := h2
    rw [repF, List.length_append]; omega
theorem rep_w (m : GP) (n : Nat) (f : Nat → Sup) (hn : n ≤ 100000) (h : smE n f = 0) : Pure Tryz.prog (gl0 m) 10 [supA n f] (.tup [.str (bs (repF f n ++ totLn (smV n f))), .int .i64 0]) := by
  have c1 := sum_l m n f hn
  rw [h] at c1
  obtain ⟨hl, hg⟩ := sm_eq h
  have hn1 := (list_spec hl).1
  have c2 := fun (i : Nat) (hi : i < n) => outg_l m (f i)
  have c3 := fun (i : Nat) (hi : i < n) => lineS m (f i) (outV (f i)) (valid_R (list_val hl hi)) (outV_R _)
  have c4 := lineT m (smV n f) (smV_R n f)
  refine pure_sk (own := ow0) Tryz.func10 (by kernel_rfl) mixed (by kernel_rfl)
    (.sc (true) 26 ([AV.isl (7) n fun (i j : Nat) => atL (Sup.cells (f i)) j]) (AV.tup [Zi (smV n f), Zi 0]) (.ff (.loop ({ x : Nat // x ≤ n }) (fun (x : { x : Nat // x ≤ n }) => mkSt [4, 19, 20, 6, 21] [Zi (smV n f), AV.isl (7) n fun (i j : Nat) => atL (Sup.cells (f i)) j, Zi (↑n : Int), AV.str (bs (repF f (x.1))), Zi (↑(x.1) : Int)] []) (fun (x : { x : Nat // x ≤ n }) => n - x.1) (⟨(0 : Nat), Nat.zero_le n⟩) ([4, 19, 20, 6, 21]) ([]) ([Zi (smV n f), AV.isl (7) n fun (i j : Nat) => atL (Sup.cells (f i)) j, Zi (↑n : Int), AV.str { data := #[] }, Zi 0]) ([]) (fun x2 => (.br (decide ((↑x2.1 : Int) < (↑n : Int))) (.req ((0 : Int) ≤ (↑x2.1 : Int) ∧ (↑x2.1 : Int) < (↑n : Int)) (.sc (true) 27 ([AV.agg (Sup.cells (f (Int.toNat (↑(x2.1) : Int))))]) (AV.tup [Zi (outV (f (Int.toNat (↑(x2.1) : Int)))), Zi (outE (f (Int.toNat (↑(x2.1) : Int))))]) (.br (outE (f (Int.toNat (↑x2.1 : Int))) != (0 : Int)) (.out (AV.tup [AV.str { data := #[] }, Zi (outE (f (Int.toNat (↑x2.1 : Int))))]) [] (AV.tup [AV.str (bs (repF f n ++ totLn (smV n f))), Zi 0]) []) (.sc (true) 28 ([AV.isl (1) (16) fun (r k : Nat) => atL (List.getD [[AV.ifc (9) (AV.str { data := #[(98 : UInt8), (97 : UInt8), (110 : UInt8), (107 : UInt8), (32 : UInt8)] })], [AV.ifc (3) (Zi (f (Int.toNat (↑(x2.1) : Int))).1)], [AV.ifc (9) (AV.str { data := #[(32 : UInt8), (101 : UInt8), (112 : UInt8), (111 : UInt8), (99 : UInt8), (104 : UInt8), (32 : UInt8)] })], [AV.ifc (3) (Zi (f (Int.toNat (↑(x2.1) : Int))).2)], [AV.ifc (9) (AV.str { data := #[(32 : UInt8), (100 : UInt8), (101 : UInt8), (110 : UInt8), (111 : UInt8), (109 : UInt8), (105 : UInt8), (110 : UInt8), (97 : UInt8), (116 : UInt8), (105 : UInt8), (111 : UInt8), (110 : UInt8), (32 : UInt8)] })], [AV.ifc (3) (Zi (f (Int.toNat (↑(x2.1) : Int))).3)], [AV.ifc (9) (AV.str { data := #[(58 : UInt8), (32 : UInt8), (105 : UInt8), (115 : UInt8), (115 : UInt8), (117 : UInt8), (101 : UInt8), (100 : UInt8), (32 : UInt8)] })], [AV.ifc (3) (Zi (f (Int.toNat (↑(x2.1) : Int))).4)], [AV.ifc (9) (AV.str { data := #[(44 : UInt8), (32 : UInt8), (114 : UInt8), (101 : UInt8), (116 : UInt8), (117 : UInt8), (114 : UInt8), (110 : UInt8), (101 : UInt8), (100 : UInt8), (32 : UInt8)] })], [AV.ifc (3) (Zi (f (Int.toNat (↑(x2.1) : Int))).5)], [AV.ifc (9) (AV.str { data := #[(44 : UInt8), (32 : UInt8), (100 : UInt8), (111 : UInt8), (117 : UInt8), (98 : UInt8), (108 : UInt8), (101 : UInt8), (32 : UInt8)] })], [AV.ifc (3) (Zi (f (Int.toNat (↑(x2.1) : Int))).6)], [AV.ifc (9) (AV.str { data := #[(44 : UInt8), (32 : UInt8), (101 : UInt8), (120 : UInt8), (112 : UInt8), (105 : UInt8), (114 : UInt8), (101 : UInt8), (100 : UInt8), (32 : UInt8)] })], [AV.ifc (3) (Zi (f (Int.toNat (↑(x2.1) : Int))).7)], [AV.ifc (9) (AV.str { data := #[(44 : UInt8), (32 : UInt8), (111 : UInt8), (117 : UInt8), (116 : UInt8), (115 : UInt8), (116 : UInt8), (97 : UInt8), (110 : UInt8), (100 : UInt8), (105 : UInt8), (110 : UInt8), (103 : UInt8), (32 : UInt8)] })], [AV.ifc (3) (Zi (outV (f (Int.toNat (↑x2.1 : Int)))))]] (r + 0) []) k]) (AV.str (bs (supLn (f (Int.toNat (↑(x2.1) : Int))) (outV (f (Int.toNat (↑(x2.1) : Int))))))) (.req (ByteArray.size (bs (repF f x2.1)) + ByteArray.size (bs (supLn (f (Int.toNat (↑x2.1 : Int))) (outV (f (Int.toNat (↑x2.1 : Int)))))) ≤ 9223372036854775807) (.again (Again (0) (fun (x : { x : Nat // x ≤ n }) => mkSt [4, 19, 20, 6, 21] [Zi (smV n f), AV.isl (7) n fun (i j : Nat) => atL (Sup.cells (f i)) j, Zi (↑n : Int), AV.str (bs (repF f (x.1))), Zi (↑(x.1) : Int)] []) (fun (x : { x : Nat // x ≤ n }) => n - x.1) x2) ([4, 19, 20, 6, 21]) ([]) ([Zi (smV n f), AV.isl (7) n fun (i j : Nat) => atL (Sup.cells (f i)) j, Zi (↑n : Int), AV.str (bs (repF f x2.1) ++ bs (supLn (f (Int.toNat (↑x2.1 : Int))) (outV (f (Int.toNat (↑x2.1 : Int)))))), Zi (IntKind.wrap IntKind.i64 ((↑x2.1 : Int) + (1 : Int)))]) ([]))))))) (.sc (true) 28 ([AV.isl (1) (2) fun (r k : Nat) => atL (List.getD [[AV.ifc (9) (AV.str { data := #[(116 : UInt8), (111 : UInt8), (116 : UInt8), (97 : UInt8), (108 : UInt8), (32 : UInt8)] })], [AV.ifc (3) (Zi (smV n f))]] (r + 0) []) k]) (AV.str (bs (totLn (smV n f)))) (.req (ByteArray.size (bs (repF f x2.1)) + ByteArray.size (bs (totLn (smV n f))) ≤ 9223372036854775807) (.out (AV.tup [AV.str (bs (repF f x2.1) ++ bs (totLn (smV n f))), Zi 0]) [] (AV.tup [AV.str (bs (repF f n ++ totLn (smV n f))), Zi 0]) []))))))))
    (by kernel_rfl) ?_
  refine k_sc (c1) ?_
  refine k_ff ?_
  refine k_loop (fun _ hs => hs.le (by repeat' (first | exact trivial | (first | exact Ent.refl _ | exact inc_ent (by omega) | exact Ent.nil rfl | exact Ent.of_eq (congrArg (AV.osl _ _ _) (by first | omega | (dsimp only; omega))) | exact Ent.of_eq (congrArg (AV.int _) (by first | omega | (dsimp only; omega)))) | refine And.intro ?_ ?_)) (trivial)) (fun x2 => ?_)
  try (have q2 := x2.2; dsimp only at q2)
  have hg2 := fun h => hg x2.1 h; have hr := rep_le (f := f) (fun i hi => valid_R (list_val hl hi)) x2.1 x2.2
  refine k_br (fun h3 => ?_) (fun h3 => ?_)
  · have g3 := cnd_dec_t h3
    refine k_req (by first | omega | (simp only [Int.toNat_natCast]; omega)) ?_
    refine k_sc (c2 (Int.toNat (↑(x2.1) : Int)) (by first | assumption | omega)) ?_
    refine k_br (fun h6 => ?_) (fun h6 => ?_)
    · have g6 := cnd_bne_t h6
      try simp only [Int.toNat_natCast] at g6
      exact k_out (absurd (outE_3 (list_val hl (by omega)) (hg2 (by omega))) g6)
    · have g6 := cnd_bne_f h6
      try simp only [Int.toNat_natCast] at g6
      refine k_sc (c3 (Int.toNat (↑(x2.1) : Int)) (by first | assumption | omega)) ?_
      refine k_req (by rw [bs_size, bs_size]; have h1 := supLn_le (valid_R (list_val hl (i := x2.1) (by omega))) (outV_R (f x2.1)); simp only [Int.toNat_natCast]; omega) ?_
      exact k_again (⟨x2.1 + 1, by omega⟩) (fun _ hs => hs.le (⟨Ent.refl _, Ent.refl _, Ent.refl _, Ent.of_eq (congrArg AV.str (by have e := outV_3 (list_val hl (i := x2.1) (by omega)) (hg2 (by omega)); rw [Int.toNat_natCast, e, bs_app]; rfl)), inc_ent (by omega), trivial⟩) (trivial)) (by first | omega | (dsimp only; omega) | (simp; omega))
  · have g3 := cnd_dec_f h3
    refine k_sc (c4) ?_
    refine k_req (by rw [bs_size, bs_size]; have h1 := totLn_le (smV_R n f); omega) ?_
    exact k_out (Ent.tup ⟨Ent.of_eq (congrArg AV.str (by rw [bs_app, show x2.1 = n by omega])), Ent.refl _, trivial⟩)


theorem rep_e (m : GP) (n : Nat) (f : Nat → Sup) (hn : n ≤ 100000) (h : ¬ smE n f = 0) : Pure Tryz.prog (gl0 m) 10 [supA n f] (.tup [.str (bs []), .int .i64 (smE n f)]) := by
  have c1 := sum_l m n f hn
  refine pure_sk (own := ow0) Tryz.func10 (by kernel_rfl) mixed (by kernel_rfl)
    (.sc (true) 26 ([AV.isl (7) n fun (i j : Nat) => atL (Sup.cells (f i)) j]) (AV.tup [Zi (smV n f), Zi (smE n f)]) (.br (smE n f != (0 : Int)) (.out (AV.tup [AV.str { data := #[] }, Zi (smE n f)]) [] (AV.tup [AV.str (bs []), Zi (smE n f)]) []) .no))
    (by kernel_rfl) ?_
  refine k_sc (c1) ?_
  refine k_br (fun h1 => ?_) (fun h1 => ?_)
  · have g1 := cnd_bne_t h1
    exact k_out (Ent.of_eq (by first | rfl | simp_all))
  · have g1 := cnd_bne_f h1
    exact (show False from (by exfalso; omega))
def repV (n : Nat) (f : Nat → Sup) : Str := if smE n f = 0 then repF f n ++ totLn (smV n f) else []
theorem rep_c (m : GP) (n : Nat) (f : Nat → Sup) (hn : n ≤ 100000) : Pure Tryz.prog (gl0 m) 10 [supA n f] (.tup [.str (bs (repV n f)), .int .i64 (smE n f)]) := by
  by_cases h : smE n f = 0
  · unfold repV; rw [if_pos h, h]; exact rep_w m n f hn h
  · unfold repV; rw [if_neg h]; exact rep_e m n f hn h

end Go.Proofs.YtbmdmoknnlhdoaaGreatDoor.N

namespace Go.Sp
open Go Go.Lib

theorem cut_pos {s p : Str} (h : p.isPrefixOf s = true) : cut s p = ([], s.drop p.length, true) := by
  have : index s p = 0 := by
    cases s with
    | nil =>
      have : p = [] := by simpa using h
      subst this; rfl
    | cons c s => unfold index; rw [if_pos h]
  unfold cut; rw [this, if_pos (Int.le_refl 0)]; simp
theorem idx_neg {c : UInt8} {s p : Str} (h : p.isPrefixOf (c :: s) = false) : index (c :: s) p = if index s p == -1 then -1 else index s p + 1 := by
  rw [index, if_neg (by rw [h]; decide)]
theorem cut_neg {c : UInt8} {s p a b : Str} (h : p.isPrefixOf (c :: s) = false) (k : cut s p = (a, b, true)) : cut (c :: s) p = (c :: a, b, true) := by
  unfold cut at k ⊢
  by_cases g : 0 ≤ index s p
  · rw [if_pos g] at k
    obtain ⟨i, hi⟩ := Int.eq_ofNat_of_zero_le g
    rw [hi] at k
    rw [idx_neg h, hi]
    have e : (((i : Int) == -1) = false) := by rw [beq_eq_false_iff_ne]; omega
    rw [e]
    simp only [Bool.false_eq_true, if_false]
    rw [if_pos (by omega), show ((i : Int) + 1).toNat = i + 1 by omega]
    simp only [Int.toNat_natCast, Prod.mk.injEq, and_true] at k
    obtain ⟨k1, k2⟩ := k
    rw [← k1, ← k2, show i + 1 + p.length = (i + p.length) + 1 by omega]; simp
  · rw [if_neg g] at k; cases k
theorem cut_ft {s p : Str} (h : (cut s p).2.2 = false) : index s p = -1 := by
  unfold cut at h
  by_cases g : 0 ≤ index s p
  · rw [if_pos g] at h; cases h
  · have := index_ge s p; omega
theorem cut_tail {c : UInt8} {s p : Str} (h : (cut (c :: s) p).2.2 = false) : p.isPrefixOf (c :: s) = false ∧ (cut s p).2.2 = false := by
  have h1 := cut_ft h
  cases hp : p.isPrefixOf (c :: s) with
  | true => rw [cut_pos hp] at h; cases h
  | false =>
    refine ⟨rfl, ?_⟩
    rw [idx_neg hp] at h1
    have := index_ge s p
    by_cases g : index s p = -1
    · unfold cut; rw [if_neg (by omega)]
    · rw [if_neg (by rw [beq_iff_eq]; exact g)] at h1; omega
theorem hit_app {p : Str} (hp : p ≠ []) (X : Str) : ∀ (L a b : Str), cut L p = (a, b, true) → cut (L ++ X) p = (a, b ++ X, true)
  | [], a, b, h => by
    unfold cut at h
    have : index [] p = -1 := by unfold index; rw [if_neg (by simpa using hp)]
    rw [this, if_neg (by decide)] at h; cases h
  | c :: L, a, b, h => by
    cases hq : p.isPrefixOf (c :: L) with
    | true =>
      rw [cut_pos hq] at h; cases h
      have hpre := List.isPrefixOf_iff_prefix.1 hq
      rw [cut_pos (List.isPrefixOf_iff_prefix.2 (hpre.trans (List.prefix_append _ _))), List.drop_append_of_le_length hpre.length_le]
    | false =>
      have g : 0 ≤ index L p := by
        by_cases g : 0 ≤ index L p
        · exact g
        · have e : index L p = -1 := by have := index_ge L p; omega
          have : (cut (c :: L) p).2.2 = false := by
            unfold cut; rw [idx_neg hq, e]; rfl
          rw [h] at this; cases this
      have hr := index_room L p g
      have k : cut L p = (L.take (index L p).toNat, L.drop ((index L p).toNat + p.length), true) := by unfold cut; rw [if_pos g]
      have h2 := cut_neg hq k
      rw [h] at h2; cases h2
      have ih := hit_app hp X L _ _ k
      refine cut_neg ?_ ih
      cases hq2 : p.isPrefixOf (c :: (L ++ X)) with
      | false => rfl
      | true =>
        have h1 := List.isPrefixOf_iff_prefix.1 hq2
        have h3 : (c :: L) <+: (c :: (L ++ X)) := ⟨X, rfl⟩
        have h4 := List.prefix_of_prefix_length_le h1 h3 (by simp; omega)
        rw [List.isPrefixOf_iff_prefix.2 h4] at hq; cases hq
theorem lit_dig {p : Str} {d : UInt8} {X a b : Str} (hd : d ∉ p) (k : cut (d :: X) p = (a, b, true)) : ∀ L : Str, (cut L p).2.2 = false → cut (L ++ d :: X) p = (L ++ a, b, true)
  | [], _ => k
  | c :: L, h => by
    obtain ⟨h1, h2⟩ := cut_tail h
    refine cut_neg ?_ (lit_dig hd k L h2)
    cases hq2 : p.isPrefixOf (c :: (L ++ d :: X)) with
    | false => rfl
    | true =>
      have q1 := List.isPrefixOf_iff_prefix.1 hq2
      by_cases hl : p.length ≤ (c :: L).length
      · have h4 := List.prefix_of_prefix_length_le q1 (⟨d :: X, rfl⟩ : (c :: L) <+: (c :: (L ++ d :: X))) hl
        rw [List.isPrefixOf_iff_prefix.2 h4] at h1; cases h1
      · have h4 := List.prefix_of_prefix_length_le (⟨X, by simp⟩ : (c :: (L ++ [d])) <+: (c :: (L ++ d :: X))) q1 (by simp at hl ⊢; omega)
        exact absurd (h4.subset (by simp)) hd
theorem dig_skip {p : Str} (hp : p ≠ []) {X a b : Str} (k : cut X p = (a, b, true)) : ∀ D : Str, (∀ c ∈ D, c ∉ p) → cut (D ++ X) p = (D ++ a, b, true)
  | [], _ => k
  | c :: D, h => by
    refine cut_neg ?_ (dig_skip hp k D (fun x hx => h x (List.mem_cons_of_mem _ hx)))
    cases p with
    | nil => exact absurd rfl hp
    | cons q p =>
      have := h c (List.mem_cons_self ..)
      have : ¬ q = c := fun e => this (by rw [e]; exact List.mem_cons_self ..)
      simp [List.isPrefixOf, this]
def flatS : List (Str × Str) → Str
  | [] => []
  | (l, d) :: r => l ++ (d ++ flatS r)
theorem cut_segs {p : Str} (hp : p ≠ []) {x l Y : Str} (hl : cut l p = (x, [], true)) : ∀ (pre : List (Str × Str)), (∀ q ∈ pre, (cut q.1 p).2.2 = false ∧ q.2 ≠ [] ∧ ∀ c ∈ q.2, c ∉ p) → cut (flatS pre ++ (l ++ Y)) p = (flatS pre ++ x, Y, true)
  | [], _ => by
    have := hit_app hp Y l x [] hl
    simpa [flatS] using this
  | (l1, d1) :: pre, h => by
    have ih := cut_segs hp (Y := Y) hl pre (fun q hq => h q (List.mem_cons_of_mem _ hq))
    obtain ⟨h1, h2, h3⟩ := h (l1, d1) (List.mem_cons_self ..)
    have k := dig_skip hp ih d1 h3
    cases d1 with
    | nil => exact absurd rfl h2
    | cons d D =>
      have := lit_dig (h3 d (List.mem_cons_self ..)) (X := D ++ (flatS pre ++ (l ++ Y))) k l1 h1
      simpa [flatS] using this
end Go.Sp

namespace Go.Sp
open Go Go.Am Go.Lib
theorem spl_mid (c : UInt8) (y : Str) : ∀ x : Str, spl c (x ++ c :: y) = spl c x ++ spl c y
  | [] => by rw [List.nil_append, spl_cons_eq]; rfl
  | b :: l => by
    rw [List.cons_append]
    by_cases h : b = c
    · subst h; rw [spl_cons_eq, spl_cons_eq, spl_mid]; rfl
    · rw [spl_cons_ne _ h, spl_cons_ne _ h, spl_mid c y l]
      cases k : spl c l with
      | nil => exact absurd k (spl_ne _ _)
      | cons p r => rfl
def blk (t : Bool) : Str := if t = true then [32, 9] else [32, 32]
end Go.Sp

namespace Go.Sp
open Go Go.Lib

def segS (s : Sup) (n : Int) : List (Str × Str) := [([98, 97, 110, 107, 32], itoa s.bank), ([32, 101, 112, 111, 99, 104, 32], itoa s.epoch), ([32, 100, 101, 110, 111, 109, 105, 110, 97, 116, 105, 111, 110, 32], itoa s.denom), ([58, 32, 105, 115, 115, 117, 101, 100, 32], itoa s.issued), ([44, 32, 114, 101, 116, 117, 114, 110, 101, 100, 32], itoa s.ret), ([44, 32, 100, 111, 117, 98, 108, 101, 32], itoa s.dbl), ([44, 32, 101, 120, 112, 105, 114, 101, 100, 32], itoa s.exp), ([44, 32, 111, 117, 116, 115, 116, 97, 110, 100, 105, 110, 103, 32], itoa n)]
def lnS (s : Sup) (n : Int) : Str := flatS (segS s n)
def totS (n : Int) : Str := [116, 111, 116, 97, 108, 32] ++ itoa n
def aftV (s p : Str) : Str := (cut (cut s p).2.1 [44]).1
theorem take_dig {d r : Str} (hd : ∀ c ∈ d, c.toNat ≠ 44) (hr : r = [] ∨ ∃ q, r = 44 :: q) : (d ++ r).takeWhile (· != 44) = d := by
  induction d with
  | nil =>
    rcases hr with rfl | ⟨q, rfl⟩
    · rfl
    · simp
  | cons c d ih =>
    have hc := hd c (List.mem_cons_self ..)
    have : (c != 44) = true := by rw [bne_iff_ne]; rintro rfl; exact hc rfl
    rw [List.cons_append, List.takeWhile_cons, if_pos this, ih (fun x hx => hd x (List.mem_cons_of_mem _ hx))]
theorem aft_gen {p x l d : Str} (hp : p ≠ []) (hl : cut l p = (x, [], true)) (pre post : List (Str × Str)) (hpre : ∀ q ∈ pre, (cut q.1 p).2.2 = false ∧ q.2 ≠ [] ∧ ∀ c ∈ q.2, c ∉ p) (hd : ∀ c ∈ d, c.toNat ≠ 44) (hr : flatS post = [] ∨ ∃ q, flatS post = 44 :: q) :
    (cut (flatS pre ++ (l ++ (d ++ flatS post))) p).2.2 = true ∧ aftV (flatS pre ++ (l ++ (d ++ flatS post))) p = d := by
  have := cut_segs hp (Y := d ++ flatS post) hl pre hpre
  unfold aftV
  rw [this]
  refine ⟨rfl, ?_⟩
  show (cut (d ++ flatS post) [44]).1 = d
  rw [cut_one]; exact take_dig hd hr
theorem itoa_44 {n : Int} (h : 0 ≤ n) : ∀ c ∈ itoa n, c.toNat ≠ 44 := fun c hc => by have := itoa_byte h c hc; omega
theorem dig_not {n : Int} (h : 0 ≤ n) {p : Str} (hp : (p.all fun c => decide (c.toNat < 48) || decide (57 < c.toNat)) = true) : itoa n ≠ [] ∧ ∀ c ∈ itoa n, c ∉ p := by
  refine ⟨itoa_ne n, fun c hc hm => ?_⟩
  have h1 := itoa_byte h c hc
  have h2 := List.all_eq_true.1 hp c hm
  simp only [Bool.or_eq_true, decide_eq_true_eq] at h2
  omega
structure OkS (s : Sup) (n : Int) : Prop where
  h0 : 0 ≤ s.bank
  h1 : 0 ≤ s.epoch
  h2 : 0 ≤ s.denom
  h3 : 0 ≤ s.issued
  h4 : 0 ≤ s.ret
  h5 : 0 ≤ s.dbl
  h6 : 0 ≤ s.exp
  h7 : 0 ≤ n
theorem aft_1 {s : Sup} {n : Int} (h : OkS s n) : (cut (lnS s n) [105, 115, 115, 117, 101, 100, 32]).2.2 = true ∧ aftV (lnS s n) [105, 115, 115, 117, 101, 100, 32] = itoa s.issued := by
  have := aft_gen (p := [105, 115, 115, 117, 101, 100, 32]) (x := [58, 32]) (l := [58, 32, 105, 115, 115, 117, 101, 100, 32]) (d := itoa s.issued) (by simp) (by decide) [([98, 97, 110, 107, 32], itoa s.bank), ([32, 101, 112, 111, 99, 104, 32], itoa s.epoch), ([32, 100, 101, 110, 111, 109, 105, 110, 97, 116, 105, 111, 110, 32], itoa s.denom)] [([44, 32, 114, 101, 116, 117, 114, 110, 101, 100, 32], itoa s.ret), ([44, 32, 100, 111, 117, 98, 108, 101, 32], itoa s.dbl), ([44, 32, 101, 120, 112, 105, 114, 101, 100, 32], itoa s.exp), ([44, 32, 111, 117, 116, 115, 116, 97, 110, 100, 105, 110, 103, 32], itoa n)] (fun q hq => by
    simp only [List.mem_cons, List.not_mem_nil, or_false] at hq
    rcases hq with rfl | rfl | rfl
    all_goals refine ⟨by dsimp only; decide, ?_⟩
    · exact dig_not h.h0 (by decide)
    · exact dig_not h.h1 (by decide)
    · exact dig_not h.h2 (by decide)) (itoa_44 h.h3) (.inr ⟨_, rfl⟩)
  simpa [lnS, segS, flatS] using this
theorem aft_2 {s : Sup} {n : Int} (h : OkS s n) : (cut (lnS s n) [114, 101, 116, 117, 114, 110, 101, 100, 32]).2.2 = true ∧ aftV (lnS s n) [114, 101, 116, 117, 114, 110, 101, 100, 32] = itoa s.ret := by
  have := aft_gen (p := [114, 101, 116, 117, 114, 110, 101, 100, 32]) (x := [44, 32]) (l := [44, 32, 114, 101, 116, 117, 114, 110, 101, 100, 32]) (d := itoa s.ret) (by simp) (by decide) [([98, 97, 110, 107, 32], itoa s.bank), ([32, 101, 112, 111, 99, 104, 32], itoa s.epoch), ([32, 100, 101, 110, 111, 109, 105, 110, 97, 116, 105, 111, 110, 32], itoa s.denom), ([58, 32, 105, 115, 115, 117, 101, 100, 32], itoa s.issued)] [([44, 32, 100, 111, 117, 98, 108, 101, 32], itoa s.dbl), ([44, 32, 101, 120, 112, 105, 114, 101, 100, 32], itoa s.exp), ([44, 32, 111, 117, 116, 115, 116, 97, 110, 100, 105, 110, 103, 32], itoa n)] (fun q hq => by
    simp only [List.mem_cons, List.not_mem_nil, or_false] at hq
    rcases hq with rfl | rfl | rfl | rfl
    all_goals refine ⟨by dsimp only; decide, ?_⟩
    · exact dig_not h.h0 (by decide)
    · exact dig_not h.h1 (by decide)
    · exact dig_not h.h2 (by decide)
    · exact dig_not h.h3 (by decide)) (itoa_44 h.h4) (.inr ⟨_, rfl⟩)
  simpa [lnS, segS, flatS] using this
theorem aft_3 {s : Sup} {n : Int} (h : OkS s n) : (cut (lnS s n) [100, 111, 117, 98, 108, 101, 32]).2.2 = true ∧ aftV (lnS s n) [100, 111, 117, 98, 108, 101, 32] = itoa s.dbl := by
  have := aft_gen (p := [100, 111, 117, 98, 108, 101, 32]) (x := [44, 32]) (l := [44, 32, 100, 111, 117, 98, 108, 101, 32]) (d := itoa s.dbl) (by simp) (by decide) [([98, 97, 110, 107, 32], itoa s.bank), ([32, 101, 112, 111, 99, 104, 32], itoa s.epoch), ([32, 100, 101, 110, 111, 109, 105, 110, 97, 116, 105, 111, 110, 32], itoa s.denom), ([58, 32, 105, 115, 115, 117, 101, 100, 32], itoa s.issued), ([44, 32, 114, 101, 116, 117, 114, 110, 101, 100, 32], itoa s.ret)] [([44, 32, 101, 120, 112, 105, 114, 101, 100, 32], itoa s.exp), ([44, 32, 111, 117, 116, 115, 116, 97, 110, 100, 105, 110, 103, 32], itoa n)] (fun q hq => by
    simp only [List.mem_cons, List.not_mem_nil, or_false] at hq
    rcases hq with rfl | rfl | rfl | rfl | rfl
    all_goals refine ⟨by dsimp only; decide, ?_⟩
    · exact dig_not h.h0 (by decide)
    · exact dig_not h.h1 (by decide)
    · exact dig_not h.h2 (by decide)
    · exact dig_not h.h3 (by decide)
    · exact dig_not h.h4 (by decide)) (itoa_44 h.h5) (.inr ⟨_, rfl⟩)
  simpa [lnS, segS, flatS] using this
theorem aft_4 {s : Sup} {n : Int} (h : OkS s n) : (cut (lnS s n) [101, 120, 112, 105, 114, 101, 100, 32]).2.2 = true ∧ aftV (lnS s n) [101, 120, 112, 105, 114, 101, 100, 32] = itoa s.exp := by
  have := aft_gen (p := [101, 120, 112, 105, 114, 101, 100, 32]) (x := [44, 32]) (l := [44, 32, 101, 120, 112, 105, 114, 101, 100, 32]) (d := itoa s.exp) (by simp) (by decide) [([98, 97, 110, 107, 32], itoa s.bank), ([32, 101, 112, 111, 99, 104, 32], itoa s.epoch), ([32, 100, 101, 110, 111, 109, 105, 110, 97, 116, 105, 111, 110, 32], itoa s.denom), ([58, 32, 105, 115, 115, 117, 101, 100, 32], itoa s.issued), ([44, 32, 114, 101, 116, 117, 114, 110, 101, 100, 32], itoa s.ret), ([44, 32, 100, 111, 117, 98, 108, 101, 32], itoa s.dbl)] [([44, 32, 111, 117, 116, 115, 116, 97, 110, 100, 105, 110, 103, 32], itoa n)] (fun q hq => by
    simp only [List.mem_cons, List.not_mem_nil, or_false] at hq
    rcases hq with rfl | rfl | rfl | rfl | rfl | rfl
    all_goals refine ⟨by dsimp only; decide, ?_⟩
    · exact dig_not h.h0 (by decide)
    · exact dig_not h.h1 (by decide)
    · exact dig_not h.h2 (by decide)
    · exact dig_not h.h3 (by decide)
    · exact dig_not h.h4 (by decide)
    · exact dig_not h.h5 (by decide)) (itoa_44 h.h6) (.inr ⟨_, rfl⟩)
  simpa [lnS, segS, flatS] using this
theorem aft_5 {s : Sup} {n : Int} (h : OkS s n) : (cut (lnS s n) [111, 117, 116, 115, 116, 97, 110, 100, 105, 110, 103, 32]).2.2 = true ∧ aftV (lnS s n) [111, 117, 116, 115, 116, 97, 110, 100, 105, 110, 103, 32] = itoa n := by
  have := aft_gen (p := [111, 117, 116, 115, 116, 97, 110, 100, 105, 110, 103, 32]) (x := [44, 32]) (l := [44, 32, 111, 117, 116, 115, 116, 97, 110, 100, 105, 110, 103, 32]) (d := itoa n) (by simp) (by decide) [([98, 97, 110, 107, 32], itoa s.bank), ([32, 101, 112, 111, 99, 104, 32], itoa s.epoch), ([32, 100, 101, 110, 111, 109, 105, 110, 97, 116, 105, 111, 110, 32], itoa s.denom), ([58, 32, 105, 115, 115, 117, 101, 100, 32], itoa s.issued), ([44, 32, 114, 101, 116, 117, 114, 110, 101, 100, 32], itoa s.ret), ([44, 32, 100, 111, 117, 98, 108, 101, 32], itoa s.dbl), ([44, 32, 101, 120, 112, 105, 114, 101, 100, 32], itoa s.exp)] [] (fun q hq => by
    simp only [List.mem_cons, List.not_mem_nil, or_false] at hq
    rcases hq with rfl | rfl | rfl | rfl | rfl | rfl | rfl
    all_goals refine ⟨by dsimp only; decide, ?_⟩
    · exact dig_not h.h0 (by decide)
    · exact dig_not h.h1 (by decide)
    · exact dig_not h.h2 (by decide)
    · exact dig_not h.h3 (by decide)
    · exact dig_not h.h4 (by decide)
    · exact dig_not h.h5 (by decide)
    · exact dig_not h.h6 (by decide)) (itoa_44 h.h7) (.inl rfl)
  simpa [lnS, segS, flatS] using this
theorem aft_t {n : Int} (h : 0 ≤ n) : (cut (totS n) [116, 111, 116, 97, 108, 32]).2.2 = true ∧ aftV (totS n) [116, 111, 116, 97, 108, 32] = itoa n := by
  have := aft_gen (p := [116, 111, 116, 97, 108, 32]) (x := []) (l := [116, 111, 116, 97, 108, 32]) (d := itoa n) (by simp) (by decide) [] [] (fun q hq => by cases hq) (itoa_44 h) (.inl rfl)
  simpa [totS, flatS] using this
end Go.Sp

namespace Go.Proofs.YtbmdmoknnlhdoaaGreatDoor.N
open Go Go.Am Go.Sp Go.Lib Go.RowKit Go.Shelf
set_option maxRecDepth 100000

theorem sfx_c (m : GP) (s p : Str) (hs : s.length ≤ 9223372036854775807) : Pure Tryz.prog (gl0 m) 45 [.str (bs s), .str (bs p)] (.bool (hasSuffix s p)) := by
  refine pure_of ⟨_, _, Tryz.func45, rfl, by kernel_rfl⟩ fun β w vs hf hg ha => ?_
  obtain ⟨u, v, rfl, h1, h2⟩ := rels2 ha
  rw [rel_str_inv h1, rel_str_inv h2]
  refine (Tryz.strings_HasSuffix (bs s) (bs p) w (by rw [bs_size]; exact hs)).mono fun e w' hh => ?_
  obtain ⟨he, rfl⟩ := hh
  exact ⟨_, he, Below.refl _ _, .bool⟩
theorem ext_s (s : Str) (hs : s.length < 4294967280) : (bs (s ++ [10])).extract 0 (0 + Int.toNat (IntKind.wrap .i64 (((bs (s ++ [10])).size : Int) - 1))) = bs s := by
  rw [bs_ext, bs_size, List.length_append, List.length_singleton, wI (by omega) (by omega)]
  rw [show (((s.length + 1 : Nat) : Int) - 1).toNat = s.length by omega, List.drop_zero, List.take_left]
theorem lines_c (m : GP) (s : Str) (hs : s.length < 4294967280) : Pure Tryz.prog (gl0 m) 16 [.str (bs (s ++ [10]))] (.isl 1 (spl 10 s).length fun i _ => .str (bs ((spl 10 s).getD i []))) := by
  have c1 := sfx_c m (s ++ [10]) [10] (by simp; omega)
  have c2 := split_c m 10 s (by omega)
  rw [← ext_s s hs] at c2
  rw [show hasSuffix (s ++ [10]) [10] = true by unfold hasSuffix; simp] at c1
  refine pure_sk (own := ow0) Tryz.func16 (by kernel_rfl) mixed (by kernel_rfl)
    (.sc ((ByteArray.toList (bs (s ++ [(10 : UInt8)])) == ByteArray.toList { data := #[] }) == false) 45 ([AV.str (bs (s ++ [(10 : UInt8)])), AV.str { data := #[(10 : UInt8)] }]) (AV.bool true) (.br (ByteArray.toList (bs (s ++ [(10 : UInt8)])) == ByteArray.toList { data := #[] } || false) (.out (AV.nsl) [] (AV.isl (1 : Nat) (List.length (spl (10 : UInt8) s)) fun (i x : Nat) => AV.str (bs (List.getD (spl (10 : UInt8) s) i []))) []) (.req ((0 : Int) ≤ IntKind.wrap IntKind.i64 ((↑(ByteArray.size (bs (s ++ [(10 : UInt8)]))) : Int) - (1 : Int)) ∧ IntKind.wrap IntKind.i64 ((↑(ByteArray.size (bs (s ++ [(10 : UInt8)]))) : Int) - (1 : Int)) ≤ (↑(ByteArray.size (bs (s ++ [(10 : UInt8)]))) : Int)) (.dc (true) 46 ([AV.str (ByteArray.extract (bs (s ++ [(10 : UInt8)])) (0) (0 + Int.toNat (IntKind.wrap IntKind.i64 ((↑(ByteArray.size (bs (s ++ [(10 : UInt8)]))) : Int) - (1 : Int))))), AV.str { data := #[(10 : UInt8)] }]) (AV.isl (1 : Nat) (List.length (spl (10 : UInt8) s)) fun (i x : Nat) => AV.str (bs (List.getD (spl (10 : UInt8) s) i []))) (.out (AV.isl (1) (List.length (spl (10 : UInt8) s)) fun (i x : Nat) => AV.str (bs (List.getD (spl (10 : UInt8) s) i []))) [] (AV.isl (1 : Nat) (List.length (spl (10 : UInt8) s)) fun (i x : Nat) => AV.str (bs (List.getD (spl (10 : UInt8) s) i []))) [])))))
    (by kernel_rfl) ?_
  refine k_scg (fun h0 => c1) ?_
  refine k_br (fun h1 => ?_) (fun h1 => ?_)
  · have g1 := (cnd_or_t cnd_id_t cnd_id_t) h1
    exact k_out (Ent.of_eq (by first | rfl | simp_all))
  · have g1 := (cnd_or_f cnd_id_f cnd_id_f) h1
    refine k_req (by rw [bs_size, List.length_append, List.length_singleton, wI (by omega) (by omega)]; omega) ?_
    refine k_dc (c2) ?_
    exact k_out (Ent.of_eq (by first | rfl | simp_all))
theorem cut_le (s p : Str) : (cut s p).2.1.length ≤ s.length := by
  unfold cut; split <;> simp
theorem cut_le1 (s p : Str) : (cut s p).1.length ≤ s.length := by
  unfold cut; split <;> simp
  omega


theorem after_c (m : GP) (s p : Str) (n : Int) (hs : s.length < 4294967281) (h1 : (cut s p).2.2 = true) (h2 : atoiAll (aftV s p) = .ok n) : Pure Tryz.prog (gl0 m) 17 [.str (bs s), .str (bs p)] (.tup [.int .i64 n, .bool true]) := by
  have c1 := cut_c m s p hs
  rw [h1] at c1
  have k1 := cut_le s p
  have c2 := cut_c m (cut s p).2.1 [44] (by omega)
  have c3 := atoi_c m (aftV s p) n (by have := cut_le1 (cut s p).2.1 [44]; unfold aftV; omega) h2
  refine pure_sk (own := ow0) Tryz.func17 (by kernel_rfl) mixed (by kernel_rfl)
    (.sc (true) 47 ([AV.str (bs s), AV.str (bs p)]) (AV.tup [AV.str (bs (Prod.fst (cut s p))), AV.str (bs (Prod.fst (Prod.snd (cut s p)))), AV.bool true]) (.ff (.sc (true) 47 ([AV.str (bs (Prod.snd (cut s p)).1), AV.str { data := #[(44 : UInt8)] }]) (AV.tup [AV.str (bs (Prod.fst (cut (Prod.fst (Prod.snd (cut s p))) [(44 : UInt8)]))), AV.str (bs (Prod.fst (Prod.snd (cut (Prod.fst (Prod.snd (cut s p))) [(44 : UInt8)])))), AV.bool (Prod.snd (Prod.snd (cut (Prod.fst (Prod.snd (cut s p))) [(44 : UInt8)])))]) (.dc (true) 48 ([AV.str (bs (cut (Prod.fst (Prod.snd (cut s p))) [(44 : UInt8)]).1)]) (AV.tup [Zi n, AV.raw Value.nilIface]) (.out (AV.tup [Zi n, AV.bool true]) [] (AV.tup [Zi n, AV.bool true]) [])))))
    (by kernel_rfl) ?_
  refine k_sc (c1) ?_
  refine k_ff ?_
  refine k_sc (c2) ?_
  refine k_dc (c3) ?_
  exact k_out (Ent.of_eq (by first | rfl | simp_all))

theorem supLn_eq (s : Sup) (n : Int) : supLn s n = lnS s n ++ [10] := by
  simp [supLn, flatP, supP, Part.t, lnS, segS, flatS]
theorem totLn_eq (n : Int) : totLn n = totS n ++ [10] := by
  simp [totLn, flatP, totP, Part.t, totS]
theorem okS_of {s : Sup} (h : validS s = true) (k : ¬ leftS s < 0) : OkS s (leftS s) := by
  simp only [validS, amtB, Bool.and_eq_true, decide_eq_true_eq] at h
  exact ⟨by omega, by omega, by omega, by omega, by omega, by omega, by omega, by omega⟩
theorem ln_10 {s : Sup} {n : Int} (h : OkS s n) : ∀ c ∈ lnS s n, c ≠ 10 := by
  have D : ∀ {v : Int}, 0 ≤ v → ∀ c ∈ itoa v, c ≠ 10 := fun hv c hc e => by have := itoa_byte hv c hc; rw [e] at this; revert this; decide
  intro c hc
  simp only [lnS, segS, flatS, List.mem_append, List.mem_cons, List.not_mem_nil, or_false] at hc
  rcases hc with g | g | g | g | g | g | g | g | g | g | g | g | g | g | g | g
  · rcases g with rfl | rfl | rfl | rfl | rfl <;> decide
  · exact D h.h0 c g
  · rcases g with rfl | rfl | rfl | rfl | rfl | rfl | rfl <;> decide
  · exact D h.h1 c g
  · rcases g with rfl | rfl | rfl | rfl | rfl | rfl | rfl | rfl | rfl | rfl | rfl | rfl | rfl | rfl <;> decide
  · exact D h.h2 c g
  · rcases g with rfl | rfl | rfl | rfl | rfl | rfl | rfl | rfl | rfl <;> decide
  · exact D h.h3 c g
  · rcases g with rfl | rfl | rfl | rfl | rfl | rfl | rfl | rfl | rfl | rfl | rfl <;> decide
  · exact D h.h4 c g
  · rcases g with rfl | rfl | rfl | rfl | rfl | rfl | rfl | rfl | rfl <;> decide
  · exact D h.h5 c g
  · rcases g with rfl | rfl | rfl | rfl | rfl | rfl | rfl | rfl | rfl | rfl <;> decide
  · exact D h.h6 c g
  · rcases g with rfl | rfl | rfl | rfl | rfl | rfl | rfl | rfl | rfl | rfl | rfl | rfl | rfl | rfl <;> decide
  · exact D h.h7 c g
theorem tot_10 {n : Int} (h : 0 ≤ n) : ∀ c ∈ totS n, c ≠ 10 := by
  intro c hc
  simp only [totS, List.mem_append, List.mem_cons, List.not_mem_nil, or_false] at hc
  rcases hc with g | g
  · rcases g with rfl | rfl | rfl | rfl | rfl | rfl <;> decide
  · intro e; have := itoa_byte h c g; rw [e] at this; revert this; decide
theorem spl_rep {f : Nat → Sup} {n : Nat} (h : ∀ i, i < n → OkS (f i) (leftS (f i))) : ∀ (k : Nat) (T : Str), k ≤ n → spl 10 (repF f k ++ T) = (List.range k).map (fun i => lnS (f i) (leftS (f i))) ++ spl 10 T
  | 0, T, _ => rfl
  | k + 1, T, hk => by
    have ih := spl_rep h k (lnS (f k) (leftS (f k)) ++ 10 :: T) (by omega)
    rw [spl_mid, splC_none (ln_10 (h k (by omega)))] at ih
    rw [repF, supLn_eq, List.range_succ, List.map_append]
    simpa using ih
def lineAt (f : Nat → Sup) (n : Nat) (v : Int) (i : Nat) : Str := if i < n then lnS (f i) (leftS (f i)) else totS v
theorem spl_all {f : Nat → Sup} {n : Nat} {v : Int} (h : ∀ i, i < n → OkS (f i) (leftS (f i))) (hv : 0 ≤ v) : (spl 10 (repF f n ++ totS v)).length = n + 1 ∧ ∀ i, i < n + 1 → (spl 10 (repF f n ++ totS v)).getD i [] = lineAt f n v i := by
  rw [spl_rep h n _ (Nat.le_refl _), splC_none (tot_10 hv)]
  refine ⟨by simp, fun i hi => ?_⟩
  unfold lineAt
  rw [List.getD_eq_getElem?_getD]
  by_cases c : i < n
  · rw [if_pos c, List.getElem?_append_left (by simpa using c)]; simp [c]
  · rw [if_neg c, List.getElem?_append_right (by simp; omega), show i = n by omega]; simp
theorem rlines_c (m : GP) (n : Nat) (f : Nat → Sup) (h : smE n f = 0) (hv : 0 ≤ smV n f) : Pure Tryz.prog (gl0 m) 16 [.str (bs (repF f n ++ totLn (smV n f)))] (.isl 1 (n + 1) fun i _ => .str (bs (lineAt f n (smV n f) i))) := by
  obtain ⟨hl, hg⟩ := sm_eq h
  have hok : ∀ i, i < n → OkS (f i) (leftS (f i)) := fun i hi => okS_of (list_val hl hi) (hg i hi)
  have hn1 := (list_spec hl).1
  have h1 := rep_le (f := f) (fun i hi => valid_R (list_val hl hi)) n (Nat.le_refl _)
  have h2 := totLn_le (smV_R n f)
  rw [totLn_eq, List.length_append] at h2
  have := lines_c m (repF f n ++ totS (smV n f)) (by rw [List.length_append]; omega)
  rw [List.append_assoc, ← totLn_eq] at this
  obtain ⟨e1, e2⟩ := spl_all hok hv
  rw [e1] at this
  exact this.ent (Ent.isl fun i j hi _ => by rw [e2 i hi])
theorem aft_num {m : GP} {s p : Str} {n : Int} (hs : s.length < 4294967281) (h : (cut s p).2.2 = true ∧ aftV s p = itoa n) (h0 : 0 ≤ n) (hn : n < 9223372036854775808) : Pure Tryz.prog (gl0 m) 17 [.str (bs s), .str (bs p)] (.tup [.int .i64 n, .bool true]) := by
  refine after_c m s p n hs h.1 ?_
  obtain ⟨u, rfl⟩ := Int.eq_ofNat_of_zero_le h0
  rw [h.2, itoa_nonneg, atoi_dec (by omega)]


def stepW : List Str := [[119, 105, 116, 104, 100, 114, 97, 119], [112, 97, 121], [116, 114, 97, 110, 115, 102, 101, 114], [100, 101, 112, 111, 115, 105, 116], [107, 101, 101, 112], [116, 114, 97, 99, 101], [99, 108, 101, 97, 114], [116, 105, 99, 107]]
def gl1 (m : GP) : Globs := fun g => bif Nat.beq g 0 then some (8, fun j => .str (bs (stepW.getD j []))) else gl0 m g
theorem lift1 {m : GP} {f : FuncId} {args : List AV} {r : AV} (h : Am.Pure Tryz.prog (gl0 m) f args r) : Am.Pure Tryz.prog (gl1 m) f args r := pure_mono h fun g k x e => by
  unfold gl1
  cases hb : Nat.beq g 0 with
  | false => exact e
  | true =>
    obtain rfl := Nat.eq_of_beq_eq_true hb
    exact absurd (e.symm.trans (show gl0 m 0 = none from rfl)) (by simp)
theorem left_v {s : Sup} (h : validS s = true) : leftS s = s.issued - s.ret + s.dbl - s.exp ∧ leftS s ≤ 9007199254740992 := by
  simp only [validS, amtB, Bool.and_eq_true, decide_eq_true_eq] at h
  have : leftS s = s.issued - s.ret + s.dbl - s.exp := by
    unfold leftS; rw [wI (n := s.issued - s.ret) (by omega) (by omega), wI (n := s.issued - s.ret + s.dbl) (by omega) (by omega), wI (by omega) (by omega)]
  exact ⟨this, by omega⟩
theorem sum_nn {f : Nat → Sup} {n : Nat} (hn : n ≤ 1000) (h : ∀ i, i < n → validS (f i) = true ∧ ¬ leftS (f i) < 0) : ∀ k, k ≤ n → 0 ≤ sumN f k ∧ sumN f k ≤ k * 9007199254740992
  | 0, _ => ⟨Int.le_refl 0, by show (0 : Int) ≤ ((0 : Nat) : Int) * 9007199254740992; simp⟩
  | k + 1, hk => by
    obtain ⟨h1, h2⟩ := sum_nn hn h k (by omega)
    obtain ⟨h3, h4⟩ := h k (by omega)
    have h5 := (left_v h3).2
    show 0 ≤ IntKind.wrap .i64 (sumN f k + leftS (f k)) ∧ IntKind.wrap .i64 (sumN f k + leftS (f k)) ≤ _
    rw [wI (by omega) (by omega)]
    omega
theorem line_le {f : Nat → Sup} {n : Nat} {v : Int} (h : ∀ i, i < n → (f i).R) (hv : I64 v) (i : Nat) : (lineAt f n v i).length < 4294967281 := by
  unfold lineAt
  split
  · rename_i hi
    have := supLn_le (h i hi) (n := leftS (f i)) (wrap_R _)
    rw [supLn_eq, List.length_append] at this; omega
  · have := totLn_le hv
    rw [totLn_eq, List.length_append] at this; omega
theorem rep_a1 (m : GP) (n : Nat) (f : Nat → Sup) (hn : n ≤ 60) (h : smE n f = 0) : ∀ i, i < n → Pure Tryz.prog (gl0 m) 17 [.str (bs (lineAt f n (smV n f) i)), .str (bs [105, 115, 115, 117, 101, 100, 32])] (.tup [.int .i64 ((f i).issued), .bool true]) := by
  obtain ⟨hl, hg⟩ := sm_eq h
  have hok : ∀ i, i < n → OkS (f i) (leftS (f i)) := fun i hi => okS_of (list_val hl hi) (hg i hi)
  have hR : ∀ i, i < n → (f i).R := fun i hi => valid_R (list_val hl hi)
  have hv : smV n f = sumN f n := (sm_3 hl hg).1
  have hv0 := sum_nn (n := n) (by omega) (fun i hi => ⟨list_val hl hi, hg i hi⟩) n (Nat.le_refl _)
  rw [← hv] at hv0
  exact fun i hi => aft_num (line_le hR (smV_R n f) i) (by unfold lineAt; rw [if_pos hi]; exact aft_1 (hok i hi)) (hok i hi).h3 (by have := (hR i hi); have := (left_v (list_val hl hi)).2; unfold Sup.R I64 at *; omega)
theorem rep_a2 (m : GP) (n : Nat) (f : Nat → Sup) (hn : n ≤ 60) (h : smE n f = 0) : ∀ i, i < n → Pure Tryz.prog (gl0 m) 17 [.str (bs (lineAt f n (smV n f) i)), .str (bs [114, 101, 116, 117, 114, 110, 101, 100, 32])] (.tup [.int .i64 ((f i).ret), .bool true]) := by
  obtain ⟨hl, hg⟩ := sm_eq h
  have hok : ∀ i, i < n → OkS (f i) (leftS (f i)) := fun i hi => okS_of (list_val hl hi) (hg i hi)
  have hR : ∀ i, i < n → (f i).R := fun i hi => valid_R (list_val hl hi)
  have hv : smV n f = sumN f n := (sm_3 hl hg).1
  have hv0 := sum_nn (n := n) (by omega) (fun i hi => ⟨list_val hl hi, hg i hi⟩) n (Nat.le_refl _)
  rw [← hv] at hv0
  exact fun i hi => aft_num (line_le hR (smV_R n f) i) (by unfold lineAt; rw [if_pos hi]; exact aft_2 (hok i hi)) (hok i hi).h4 (by have := (hR i hi); have := (left_v (list_val hl hi)).2; unfold Sup.R I64 at *; omega)
theorem rep_a3 (m : GP) (n : Nat) (f : Nat → Sup) (hn : n ≤ 60) (h : smE n f = 0) : ∀ i, i < n → Pure Tryz.prog (gl0 m) 17 [.str (bs (lineAt f n (smV n f) i)), .str (bs [100, 111, 117, 98, 108, 101, 32])] (.tup [.int .i64 ((f i).dbl), .bool true]) := by
  obtain ⟨hl, hg⟩ := sm_eq h
  have hok : ∀ i, i < n → OkS (f i) (leftS (f i)) := fun i hi => okS_of (list_val hl hi) (hg i hi)
  have hR : ∀ i, i < n → (f i).R := fun i hi => valid_R (list_val hl hi)
  have hv : smV n f = sumN f n := (sm_3 hl hg).1
  have hv0 := sum_nn (n := n) (by omega) (fun i hi => ⟨list_val hl hi, hg i hi⟩) n (Nat.le_refl _)
  rw [← hv] at hv0
  exact fun i hi => aft_num (line_le hR (smV_R n f) i) (by unfold lineAt; rw [if_pos hi]; exact aft_3 (hok i hi)) (hok i hi).h5 (by have := (hR i hi); have := (left_v (list_val hl hi)).2; unfold Sup.R I64 at *; omega)
theorem rep_a4 (m : GP) (n : Nat) (f : Nat → Sup) (hn : n ≤ 60) (h : smE n f = 0) : ∀ i, i < n → Pure Tryz.prog (gl0 m) 17 [.str (bs (lineAt f n (smV n f) i)), .str (bs [101, 120, 112, 105, 114, 101, 100, 32])] (.tup [.int .i64 ((f i).exp), .bool true]) := by
  obtain ⟨hl, hg⟩ := sm_eq h
  have hok : ∀ i, i < n → OkS (f i) (leftS (f i)) := fun i hi => okS_of (list_val hl hi) (hg i hi)
  have hR : ∀ i, i < n → (f i).R := fun i hi => valid_R (list_val hl hi)
  have hv : smV n f = sumN f n := (sm_3 hl hg).1
  have hv0 := sum_nn (n := n) (by omega) (fun i hi => ⟨list_val hl hi, hg i hi⟩) n (Nat.le_refl _)
  rw [← hv] at hv0
  exact fun i hi => aft_num (line_le hR (smV_R n f) i) (by unfold lineAt; rw [if_pos hi]; exact aft_4 (hok i hi)) (hok i hi).h6 (by have := (hR i hi); have := (left_v (list_val hl hi)).2; unfold Sup.R I64 at *; omega)
theorem rep_a5 (m : GP) (n : Nat) (f : Nat → Sup) (hn : n ≤ 60) (h : smE n f = 0) : ∀ i, i < n → Pure Tryz.prog (gl0 m) 17 [.str (bs (lineAt f n (smV n f) i)), .str (bs [111, 117, 116, 115, 116, 97, 110, 100, 105, 110, 103, 32])] (.tup [.int .i64 (leftS (f i)), .bool true]) := by
  obtain ⟨hl, hg⟩ := sm_eq h
  have hok : ∀ i, i < n → OkS (f i) (leftS (f i)) := fun i hi => okS_of (list_val hl hi) (hg i hi)
  have hR : ∀ i, i < n → (f i).R := fun i hi => valid_R (list_val hl hi)
  have hv : smV n f = sumN f n := (sm_3 hl hg).1
  have hv0 := sum_nn (n := n) (by omega) (fun i hi => ⟨list_val hl hi, hg i hi⟩) n (Nat.le_refl _)
  rw [← hv] at hv0
  exact fun i hi => aft_num (line_le hR (smV_R n f) i) (by unfold lineAt; rw [if_pos hi]; exact aft_5 (hok i hi)) (hok i hi).h7 (by have := (hR i hi); have := (left_v (list_val hl hi)).2; unfold Sup.R I64 at *; omega)
theorem rep_a6 (m : GP) (n : Nat) (f : Nat → Sup) (hn : n ≤ 60) (h : smE n f = 0) : Pure Tryz.prog (gl0 m) 17 [.str (bs (lineAt f n (smV n f) n)), .str (bs [116, 111, 116, 97, 108, 32])] (.tup [.int .i64 (smV n f), .bool true]) := by
  obtain ⟨hl, hg⟩ := sm_eq h
  have hok : ∀ i, i < n → OkS (f i) (leftS (f i)) := fun i hi => okS_of (list_val hl hi) (hg i hi)
  have hR : ∀ i, i < n → (f i).R := fun i hi => valid_R (list_val hl hi)
  have hv : smV n f = sumN f n := (sm_3 hl hg).1
  have hv0 := sum_nn (n := n) (by omega) (fun i hi => ⟨list_val hl hi, hg i hi⟩) n (Nat.le_refl _)
  rw [← hv] at hv0
  exact aft_num (line_le hR (smV_R n f) n) (by unfold lineAt; rw [if_neg (Nat.lt_irrefl n)]; exact aft_t hv0.1) hv0.1 (by omega)
theorem totals_w (m : GP) (n : Nat) (f : Nat → Sup) (ha : Pure Tryz.prog (gl1 m) 6 [] (.bool true)) (hn : n ≤ 60) (h : smE n f = 0) : Pure Tryz.prog (gl1 m) 4 [supA n f] (.bool true) := by
  obtain ⟨hl, hg⟩ := sm_eq h
  have hok : ∀ i, i < n → OkS (f i) (leftS (f i)) := fun i hi => okS_of (list_val hl hi) (hg i hi)
  have hR : ∀ i, i < n → (f i).R := fun i hi => valid_R (list_val hl hi)
  have hv : smV n f = sumN f n := (sm_3 hl hg).1
  have hv0 := sum_nn (n := n) (by omega) (fun i hi => ⟨list_val hl hi, hg i hi⟩) n (Nat.le_refl _)
  rw [← hv] at hv0
  have c1 := lift1 (rep_w m n f (by omega) h)
  have c2 := lift1 (rlines_c m n f h hv0.1)
  have a1 := fun i hi => lift1 (rep_a1 m n f hn h i hi)
  have a2 := fun i hi => lift1 (rep_a2 m n f hn h i hi)
  have a3 := fun i hi => lift1 (rep_a3 m n f hn h i hi)
  have a4 := fun i hi => lift1 (rep_a4 m n f hn h i hi)
  have a5 := fun i hi => lift1 (rep_a5 m n f hn h i hi)
  have a6 := lift1 (rep_a6 m n f hn h)
  refine pure_sk (own := ow0) Tryz.func4 (by kernel_rfl) mixed (by kernel_rfl)
    (.sc (true) 6 ([]) (AV.bool true) (.ff (.br (decide ((↑n : Int) > (60 : Int))) (.out (AV.bool true) [] (AV.bool true) []) (.sc (true) 10 ([AV.isl (7) n fun (i j : Nat) => atL (Sup.cells (f i)) j]) (AV.tup [AV.str (bs (repF f n ++ totLn (smV n f))), Zi 0]) (.ff (.dc (true) 16 ([AV.str (bs (repF f n ++ totLn (smV n f)))]) (AV.isl (1 : Nat) (n + (1 : Nat)) fun (i x : Nat) => AV.str (bs (lineAt f n (smV n f) i))) (.br ((↑(n + 1) : Int) != IntKind.wrap IntKind.i64 ((↑n : Int) + (1 : Int))) (.out (AV.bool false) [] (AV.bool true) []) (.req ((0 : Int) ≤ (↑n : Int) ∧ (↑n : Int) ≤ (↑(n + 1) : Int)) (.loop ({ x : Nat // x ≤ n }) (fun (x : { x : Nat // x ≤ n }) => mkSt [0, 5, 46, 47, 2, 6, 48] [AV.isl (7) n fun (i j : Nat) => atL (Sup.cells (f i)) j, AV.isl (1) (n + 1) fun (i x : Nat) => AV.str (bs (lineAt f n (smV n f) i)), AV.isl (1) (Int.toNat (↑n : Int)) fun (i j : Nat) => AV.str (bs (lineAt f n (smV n f) (i + 0))), Zi (↑(Int.toNat (↑n : Int)) : Int), AV.bool false, Zi (sumN f (x.1)), Zi (↑(x.1) : Int)] []) (fun (x : { x : Nat // x ≤ n }) => n - x.1) (⟨(0 : Nat), Nat.zero_le n⟩) ([0, 5, 46, 47, 2, 6, 48]) ([]) ([AV.isl (7) n fun (i j : Nat) => atL (Sup.cells (f i)) j, AV.isl (1) (n + 1) fun (i x : Nat) => AV.str (bs (lineAt f n (smV n f) i)), AV.isl (1) (Int.toNat (↑n : Int)) fun (i j : Nat) => AV.str (bs (lineAt f n (smV n f) (i + 0))), Zi (↑(Int.toNat (↑n : Int)) : Int), AV.bool false, Zi 0, Zi 0]) ([]) (fun x10 => (.br (decide ((↑x10.1 : Int) < (↑(Int.toNat (↑n : Int)) : Int))) (.req ((0 : Int) ≤ (↑x10.1 : Int) ∧ (↑x10.1 : Int) < (↑(Int.toNat (↑n : Int)) : Int)) (.sc (true) 17 ([AV.str (bs (lineAt f n (smV n f) (Int.toNat (↑x10.1 : Int) + 0))), AV.str { data := #[(105 : UInt8), (115 : UInt8), (115 : UInt8), (117 : UInt8), (101 : UInt8), (100 : UInt8), (32 : UInt8)] }]) (AV.tup [Zi (Sup.issued (f (Int.toNat (↑x10.1 : Int) + 0))), AV.bool true]) (.sc (true) 17 ([AV.str (bs (lineAt f n (smV n f) (Int.toNat (↑x10.1 : Int) + 0))), AV.str { data := #[(114 : UInt8), (101 : UInt8), (116 : UInt8), (117 : UInt8), (114 : UInt8), (110 : UInt8), (101 : UInt8), (100 : UInt8), (32 : UInt8)] }]) (AV.tup [Zi (Sup.ret (f (Int.toNat (↑x10.1 : Int) + 0))), AV.bool true]) (.sc (true) 17 ([AV.str (bs (lineAt f n (smV n f) (Int.toNat (↑x10.1 : Int) + 0))), AV.str { data := #[(100 : UInt8), (111 : UInt8), (117 : UInt8), (98 : UInt8), (108 : UInt8), (101 : UInt8), (32 : UInt8)] }]) (AV.tup [Zi (Sup.dbl (f (Int.toNat (↑x10.1 : Int) + 0))), AV.bool true]) (.sc (true) 17 ([AV.str (bs (lineAt f n (smV n f) (Int.toNat (↑x10.1 : Int) + 0))), AV.str { data := #[(101 : UInt8), (120 : UInt8), (112 : UInt8), (105 : UInt8), (114 : UInt8), (101 : UInt8), (100 : UInt8), (32 : UInt8)] }]) (AV.tup [Zi (Sup.exp (f (Int.toNat (↑x10.1 : Int) + 0))), AV.bool true]) (.sc (true) 17 ([AV.str (bs (lineAt f n (smV n f) (Int.toNat (↑x10.1 : Int) + 0))), AV.str { data := #[(111 : UInt8), (117 : UInt8), (116 : UInt8), (115 : UInt8), (116 : UInt8), (97 : UInt8), (110 : UInt8), (100 : UInt8), (105 : UInt8), (110 : UInt8), (103 : UInt8), (32 : UInt8)] }]) (AV.tup [Zi (leftS (f (Int.toNat (↑x10.1 : Int) + 0))), AV.bool true]) (.br (leftS (f (Int.toNat (↑x10.1 : Int) + 0)) != IntKind.wrap IntKind.i64 (IntKind.wrap IntKind.i64 (IntKind.wrap IntKind.i64 ((f (Int.toNat (↑x10.1 : Int) + 0)).4 - (f (Int.toNat (↑x10.1 : Int) + 0)).5) + (f (Int.toNat (↑x10.1 : Int) + 0)).6) - (f (Int.toNat (↑x10.1 : Int) + 0)).7)) (.out (AV.bool false) [] (AV.bool true) []) (.again (Again (0) (fun (x : { x : Nat // x ≤ n }) => mkSt [0, 5, 46, 47, 2, 6, 48] [AV.isl (7) n fun (i j : Nat) => atL (Sup.cells (f i)) j, AV.isl (1) (n + 1) fun (i x : Nat) => AV.str (bs (lineAt f n (smV n f) i)), AV.isl (1) (Int.toNat (↑n : Int)) fun (i j : Nat) => AV.str (bs (lineAt f n (smV n f) (i + 0))), Zi (↑(Int.toNat (↑n : Int)) : Int), AV.bool false, Zi (sumN f (x.1)), Zi (↑(x.1) : Int)] []) (fun (x : { x : Nat // x ≤ n }) => n - x.1) x10) ([0, 5, 46, 47, 2, 6, 48]) ([]) ([AV.isl (7) n fun (i j : Nat) => atL (Sup.cells (f i)) j, AV.isl (1) (n + 1) fun (i x : Nat) => AV.str (bs (lineAt f n (smV n f) i)), AV.isl (1) (Int.toNat (↑n : Int)) fun (i j : Nat) => AV.str (bs (lineAt f n (smV n f) (i + 0))), Zi (↑(Int.toNat (↑n : Int)) : Int), AV.bool false, Zi (IntKind.wrap IntKind.i64 (sumN f x10.1 + leftS (f (Int.toNat (↑x10.1 : Int) + 0)))), Zi (IntKind.wrap IntKind.i64 ((↑x10.1 : Int) + (1 : Int)))]) ([]))))))))) (.req ((0 : Int) ≤ (↑n : Int) ∧ (↑n : Int) < (↑(n + 1) : Int)) (.sc (true) 17 ([AV.str (bs (lineAt f n (smV n f) (Int.toNat (↑n : Int)))), AV.str { data := #[(116 : UInt8), (111 : UInt8), (116 : UInt8), (97 : UInt8), (108 : UInt8), (32 : UInt8)] }]) (AV.tup [Zi (smV n f), AV.bool true]) (.out (AV.bool (smV n f == sumN f x10.1)) [] (AV.bool true) []))))))))))))))
    (by kernel_rfl) ?_
  refine k_sc (ha) ?_
  refine k_ff ?_
  refine k_br (fun h2 => ?_) (fun h2 => ?_)
  · have g2 := cnd_dec_t h2
    exact k_out (Ent.of_eq (by first | rfl | simp_all))
  · have g2 := cnd_dec_f h2
    refine k_sc (c1) ?_
    refine k_ff ?_
    refine k_dc (c2) ?_
    refine k_br (fun h7 => ?_) (fun h7 => ?_)
    · have g7 := cnd_bne_t h7
      exact k_out (absurd (by rw [wI (by omega) (by omega)]; omega) g7)
    · have g7 := cnd_bne_f h7
      refine k_req (by first | omega | (simp only [Int.toNat_natCast]; omega)) ?_
      refine k_loop (fun _ hs => hs.le (by repeat' (first | exact trivial | (first | exact Ent.refl _ | exact inc_ent (by omega) | exact Ent.nil rfl | exact Ent.of_eq (congrArg (AV.osl _ _ _) (by first | omega | (dsimp only; omega))) | exact Ent.of_eq (congrArg (AV.int _) (by first | omega | (dsimp only; omega)))) | refine And.intro ?_ ?_)) (trivial)) (fun x10 => ?_)
      try (have q10 := x10.2; dsimp only at q10)
      refine k_br (fun h11 => ?_) (fun h11 => ?_)
      · have g11 := cnd_dec_t h11
        try simp only [Int.toNat_natCast] at g11
        refine k_req (by first | omega | (simp only [Int.toNat_natCast]; omega)) ?_
        refine k_sc (a1 (Int.toNat (↑x10.1 : Int) + 0) (by first | assumption | omega)) ?_
        refine k_sc (a2 (Int.toNat (↑x10.1 : Int) + 0) (by first | assumption | omega)) ?_
        refine k_sc (a3 (Int.toNat (↑x10.1 : Int) + 0) (by first | assumption | omega)) ?_
        refine k_sc (a4 (Int.toNat (↑x10.1 : Int) + 0) (by first | assumption | omega)) ?_
        refine k_sc (a5 (Int.toNat (↑x10.1 : Int) + 0) (by first | assumption | omega)) ?_
        refine k_br (fun h18 => ?_) (fun h18 => ?_)
        · have g18 := cnd_bne_t h18
          try simp only [Int.toNat_natCast] at g18
          exact k_out (absurd rfl g18)
        · have g18 := cnd_bne_f h18
          try simp only [Int.toNat_natCast] at g18
          exact k_again (⟨x10.1 + 1, by omega⟩) (fun _ hs => hs.le (by repeat' (first | exact trivial | (first | exact Ent.refl _ | exact inc_ent (by omega) | exact Ent.nil rfl | exact Ent.of_eq (congrArg (AV.osl _ _ _) (by first | omega | (dsimp only; omega))) | exact Ent.of_eq (congrArg (AV.int _) (by first | omega | (dsimp only; omega)))) | refine And.intro ?_ ?_)) (trivial)) (by first | omega | (dsimp only; omega) | (simp; omega))
      · have g11 := cnd_dec_f h11
        try simp only [Int.toNat_natCast] at g11
        refine k_req (by first | omega | (simp only [Int.toNat_natCast]; omega)) ?_
        refine k_sc (a6) ?_
        exact k_out (Ent.of_eq (by rw [hv, show x10.1 = n by omega]; simp))

theorem totals_e (m : GP) (n : Nat) (f : Nat → Sup) (ha : Pure Tryz.prog (gl1 m) 6 [] (.bool true)) (hn : n < 9223372036854775808) (h : n ≤ 60 → ¬ smE n f = 0) : Pure Tryz.prog (gl1 m) 4 [supA n f] (.bool true) := by
  have c1 := fun (hn : n ≤ 60) => lift1 (rep_e m n f (by omega) (h hn))
  refine pure_sk (own := ow0) Tryz.func4 (by kernel_rfl) mixed (by kernel_rfl)
    (.sc (true) 6 ([]) (AV.bool true) (.ff (.br (decide ((↑n : Int) > (60 : Int))) (.out (AV.bool true) [] (AV.bool true) []) (.sc (true) 10 ([AV.isl (7) n fun (i j : Nat) => atL (Sup.cells (f i)) j]) (AV.tup [AV.str (bs []), Zi (smE n f)]) (.br (smE n f != (0 : Int)) (.out (AV.bool true) [] (AV.bool true) []) .no)))))
    (by kernel_rfl) ?_
  refine k_sc (ha) ?_
  refine k_ff ?_
  refine k_br (fun h2 => ?_) (fun h2 => ?_)
  · have g2 := cnd_dec_t h2
    exact k_out (Ent.of_eq (by first | rfl | simp_all))
  · have g2 := cnd_dec_f h2
    refine k_sc (c1 (by first | assumption | omega)) ?_
    refine k_br (fun h5 => ?_) (fun h5 => ?_)
    · have g5 := cnd_bne_t h5
      exact k_out (Ent.of_eq (by first | rfl | simp_all))
    · have g5 := cnd_bne_f h5
      exact (show False from (by exfalso; omega))
theorem reportTotals_c (m : GP) (n : Nat) (f : Nat → Sup) (ha : Pure Tryz.prog (gl1 m) 6 [] (.bool true)) (hn : n < 9223372036854775808) : Pure Tryz.prog (gl1 m) 4 [supA n f] (.bool true) := by
  by_cases h : n ≤ 60 ∧ smE n f = 0
  · exact totals_w m n f ha h.1 h.2
  · exact totals_e m n f ha hn (fun h1 h2 => h ⟨h1, h2⟩)


def owQ : FuncId → Option (List Bool) := fun f => bif Nat.beq f 999999999 then some (List.replicate 5 true) else none
def row1 : List AV := [.int .i64 8, .int .i64 0, .int .i64 0, .int .i64 5, .bool false, .int .i64 0, .int .i64 5, .nsl]
def row2 : List AV := [.int .i64 4, .int .i64 2, .int .i64 0, .int .i64 0, .bool false, .int .i64 7, .int .i64 0, .nsl]
def litT : AV := .isl 8 2 fun r k => atL (List.getD [row1, row2] r []) k
def p1 : List Part := [.s [116, 105, 99, 107], .s [32], .n 0, .s [32], .n 0, .s [32], .n 5, .s [58, 32], .s [53]]
def p2 : List Part := [.s [100, 101, 112, 111, 115, 105, 116], .s [32], .n 2, .s [32], .n 0, .s [32], .n 0, .s [58, 32], .s [101, 114, 114, 111, 114, 32, 55]]
theorem p1_ok : ∀ p ∈ p1, p.ok := by
  intro p hp
  simp only [p1, List.mem_cons, List.not_mem_nil, or_false] at hp
  rcases hp with rfl | rfl | rfl | rfl | rfl | rfl | rfl | rfl | rfl
  all_goals first | exact Nat.le_of_ble_eq_true rfl | exact ⟨by decide, by decide⟩
theorem p2_ok : ∀ p ∈ p2, p.ok := by
  intro p hp
  simp only [p2, List.mem_cons, List.not_mem_nil, or_false] at hp
  rcases hp with rfl | rfl | rfl | rfl | rfl | rfl | rfl | rfl | rfl
  all_goals first | exact Nat.le_of_ble_eq_true rfl | exact ⟨by decide, by decide⟩
def q1 : Str := [116, 105, 99, 107, 32, 48, 32, 48, 32, 53, 58, 32, 53, 10]
def q2 : Str := [100, 101, 112, 111, 115, 105, 116, 32, 50, 32, 48, 32, 48, 58, 32, 101, 114, 114, 111, 114, 32, 55, 10]
theorem q1_eq : flatP p1 p1.length ++ [10] = q1 := by
  simp [flatP, p1, Part.t, itoa, decDigits, q1]
theorem q2_eq : flatP p2 p2.length ++ [10] = q2 := by
  simp [flatP, p2, Part.t, itoa, decDigits, q2]
theorem i5 : itoa 5 = [53] := by simp [itoa, decDigits]
theorem i7 : itoa 7 = [55] := by simp [itoa, decDigits]
theorem i0 : itoa 0 = [48] := by simp [itoa, decDigits]
theorem steps_w (m : GP) : Pure Tryz.prog (gl1 m) 14 [litT] (.tup [.str (bs (q1 ++ q2)), .int .i64 0]) := by
  have k1 := lift1 (itoa_c m 5 (by decide))
  have k2 := lift1 (itoa_c m 7 (by decide))
  have k3 := lift1 (itoa_c m 0 (by decide))
  rw [i5] at k1; rw [i7] at k2; rw [i0] at k3
  have l1 := lift1 (lineP m p1 p1_ok (by decide) (by simp [p1]))
  have l2 := lift1 (lineP m p2 p2_ok (by decide) (by simp [p2]))
  rw [q1_eq] at l1; rw [q2_eq] at l2
  refine pure_sk (own := owQ) Tryz.func14 (by kernel_rfl) mixed (by kernel_rfl)
    (.ff (.tt (.req ((0 : Int) ≤ (0 : Int) ∧ (0 : Int) < (↑(2) : Int)) (.ff (.tt (.req ((0 : Int) ≤ IntKind.wrap IntKind.i64 ((0 : Int) + (1 : Int)) ∧ IntKind.wrap IntKind.i64 ((0 : Int) + (1 : Int)) < (↑(2) : Int)) (.ff (.ff (.tt (.req ((0 : Int) ≤ (0 : Int) ∧ (0 : Int) < (↑(2) : Int)) (.sc (true) 35 ([Zi 5]) (AV.str (bs [(53 : UInt8)])) (.ff (.ff (.req ((0 : Int) ≤ IntKind.wrap IntKind.i64 ((8 : Int) - (1 : Int)) ∧ IntKind.wrap IntKind.i64 ((8 : Int) - (1 : Int)) < (↑(8) : Int)) (.sc (true) 28 ([AV.isl (1) (9) fun (r k : Nat) => atL (List.getD [[AV.ifc (9) (AV.str (bs [(116 : UInt8), (105 : UInt8), (99 : UInt8), (107 : UInt8)]))], [AV.ifc (9) (AV.str { data := #[(32 : UInt8)] })], [AV.ifc (3) (Zi 0)], [AV.ifc (9) (AV.str { data := #[(32 : UInt8)] })], [AV.ifc (3) (Zi 0)], [AV.ifc (9) (AV.str { data := #[(32 : UInt8)] })], [AV.ifc (3) (Zi 5)], [AV.ifc (9) (AV.str { data := #[(58 : UInt8), (32 : UInt8)] })], [AV.ifc (9) (AV.str (bs [(53 : UInt8)]))]] (r + 0) []) k]) (AV.str (bs q1)) (.req (14 ≤ 9223372036854775807) (.tt (.req ((0 : Int) ≤ IntKind.wrap IntKind.i64 ((0 : Int) + (1 : Int)) ∧ IntKind.wrap IntKind.i64 ((0 : Int) + (1 : Int)) < (↑(2) : Int)) (.sc (true) 35 ([Zi 0]) (AV.str (bs [(48 : UInt8)])) (.tt (.sc (true) 35 ([Zi 7]) (AV.str (bs [(55 : UInt8)])) (.req (7 ≤ 9223372036854775807) (.ff (.req ((0 : Int) ≤ IntKind.wrap IntKind.i64 ((4 : Int) - (1 : Int)) ∧ IntKind.wrap IntKind.i64 ((4 : Int) - (1 : Int)) < (↑(8) : Int)) (.sc (true) 28 ([AV.isl (1) (9) fun (r k : Nat) => atL (List.getD [[AV.ifc (9) (AV.str (bs [(100 : UInt8), (101 : UInt8), (112 : UInt8), (111 : UInt8), (115 : UInt8), (105 : UInt8), (116 : UInt8)]))], [AV.ifc (9) (AV.str { data := #[(32 : UInt8)] })], [AV.ifc (3) (Zi 2)], [AV.ifc (9) (AV.str { data := #[(32 : UInt8)] })], [AV.ifc (3) (Zi 0)], [AV.ifc (9) (AV.str { data := #[(32 : UInt8)] })], [AV.ifc (3) (Zi 0)], [AV.ifc (9) (AV.str { data := #[(58 : UInt8), (32 : UInt8)] })], [AV.ifc (9) (AV.str ({ data := #[(101 : UInt8), (114 : UInt8), (114 : UInt8), (111 : UInt8), (114 : UInt8), (32 : UInt8)] } ++ bs [(55 : UInt8)]))]] (r + 0) []) k]) (AV.str (bs q2)) (.req (37 ≤ 9223372036854775807) (.ff (.out (AV.tup [AV.str ({ data := #[] } ++ bs q1 ++ bs q2), Zi 0]) [] (AV.tup [AV.str (bs (q1 ++ q2)), Zi 0]) []))))))))))))))))))))))))))))
    (by kernel_rfl) ?_
  refine k_ff ?_
  refine k_tt ?_
  refine k_req (by first | omega | decide | exact of_decide_eq_true (by kernel_rfl)) ?_
  refine k_ff ?_
  refine k_tt ?_
  refine k_req (by first | omega | decide | exact of_decide_eq_true (by kernel_rfl)) ?_
  refine k_ff ?_
  refine k_ff ?_
  refine k_tt ?_
  refine k_req (by first | omega | decide | exact of_decide_eq_true (by kernel_rfl)) ?_
  refine k_sc (k1) ?_
  refine k_ff ?_
  refine k_ff ?_
  refine k_req (by first | omega | decide | exact of_decide_eq_true (by kernel_rfl)) ?_
  refine k_sc (l1) ?_
  refine k_req (by first | omega | decide | exact of_decide_eq_true (by kernel_rfl)) ?_
  refine k_tt ?_
  refine k_req (by first | omega | decide | exact of_decide_eq_true (by kernel_rfl)) ?_
  refine k_sc (k3) ?_
  refine k_tt ?_
  refine k_sc (k2) ?_
  refine k_req (by first | omega | decide | exact of_decide_eq_true (by kernel_rfl)) ?_
  refine k_ff ?_
  refine k_req (by first | omega | decide | exact of_decide_eq_true (by kernel_rfl)) ?_
  refine k_sc (l2) ?_
  refine k_req (by first | omega | decide | exact of_decide_eq_true (by kernel_rfl)) ?_
  refine k_ff ?_
  exact k_out (Ent.of_eq (by first | rfl | simp_all))
theorem tot0 (f : Nat → Sup) : repV 0 f = [116, 111, 116, 97, 108, 32, 48, 10] ∧ smE 0 f = 0 := by
  have h : smE 0 f = 0 := (sm_3 (list_ok (by decide) (fun i hi => absurd hi (Nat.not_lt_zero i))) (fun i hi => absurd hi (Nat.not_lt_zero i))).2
  have h2 : smV 0 f = 0 := (sm_3 (list_ok (by decide) (fun i hi => absurd hi (Nat.not_lt_zero i))) (fun i hi => absurd hi (Nat.not_lt_zero i))).1
  refine ⟨?_, h⟩
  unfold repV
  rw [if_pos h, h2, totLn_eq, totS, i0]; rfl
theorem awake_w (m : GP) : Pure Tryz.prog (gl1 m) 6 [] (.bool true) := by
  have c1 := lift1 ((rep_c m 0 (fun _ => default) (by decide)).via (args := [.nsl]) ⟨Ent.nsl, trivial⟩)
  rw [(tot0 _).1, (tot0 _).2] at c1
  have c2 := steps_w m
  refine pure_sk (own := owQ) Tryz.func6 (by kernel_rfl) mixed (by kernel_rfl)
    (.sc (true) 14 ([AV.isl (8) (2) fun (r k : Nat) => atL (List.getD [[Zi 8, Zi 0, Zi 0, Zi 5, AV.bool false, Zi 0, Zi 5, AV.nsl], [Zi 4, Zi 2, Zi 0, Zi 0, AV.bool false, Zi 7, Zi 0, AV.nsl]] (r + 0) []) k]) (AV.tup [AV.str (bs (q1 ++ q2)), Zi 0]) (.sc (true) 10 ([AV.nsl]) (AV.tup [AV.str (bs [(116 : UInt8), (111 : UInt8), (116 : UInt8), (97 : UInt8), (108 : UInt8), (32 : UInt8), (48 : UInt8), (10 : UInt8)]), Zi 0]) (.out (AV.bool true) [] (AV.bool true) [])))
    (by kernel_rfl) ?_
  refine k_sc (c2) ?_
  refine k_sc (c1) ?_
  exact k_out (Ent.of_eq (by first | rfl | simp_all))
theorem reportTotals_a (m : GP) (n : Nat) (f : Nat → Sup) (hn : n < 9223372036854775808) : Pure Tryz.prog (gl1 m) 4 [supA n f] (.bool true) := reportTotals_c m n f (awake_w m) hn

end Go.Proofs.YtbmdmoknnlhdoaaGreatDoor.N

namespace Go.Sp
open Go Go.Am


def i64s (n : Nat) : List CT := List.replicate n (.int .i64)
def supOf (g : Nat → AV) : Sup := ⟨intOfAV (g 0), intOfAV (g 1), intOfAV (g 2), intOfAV (g 3), intOfAV (g 4), intOfAV (g 5), intOfAV (g 6)⟩
theorem sups_e {os : List (Option Ob)} {a : AV} : Ent os (.isl 7 (islN a) fun i j => .int .i64 (intOfAV (islF a i j))) (supA (islN a) fun i => supOf (islF a i)) := Ent.isl fun i j _ hj => by
  have : j = 0 ∨ j = 1 ∨ j = 2 ∨ j = 3 ∨ j = 4 ∨ j = 5 ∨ j = 6 := by omega
  rcases this with rfl | rfl | rfl | rfl | rfl | rfl | rfl <;> rfl
theorem sl_len {cs : List CT} {a : AV} (h : CellOk (.sl cs) a) : islN a < 9223372036854775808 := Nat.lt_of_le_of_lt h.sl_inv.1 (by decide)
end Go.Sp

namespace Go.Am
open Go Go.Sp

def arrSk (P : Program) (g n : Nat) : Bool :=
  match (P.globals[g]?).map (·.type) with
  | some t =>
    match P.underlying t with
    | some (.array m e) =>
      match P.underlying e with
      | some .string => Nat.beq m n && Nat.beq (P.cellsOf e) 1 && Nat.beq (P.cellsOf t) n
      | _ => false
    | _ => false
  | none => false
theorem arrSk_inv {P : Program} {g n : Nat} (h : arrSk P g n = true) : ∃ t e, (P.globals[g]?).map (·.type) = some t ∧ P.underlying t = some (.array n e) ∧ P.underlying e = some .string ∧ P.cellsOf e = 1 ∧ P.cellsOf t = n := by
  unfold arrSk at h
  split at h
  · rename_i t ht
    split at h
    · rename_i m e hu
      split at h
      · rename_i he
        simp only [Bool.and_eq_true, Nat.beq_eq] at h
        obtain ⟨⟨rfl, h2⟩, h3⟩ := h
        exact ⟨t, e, ht, hu, he, h2, h3⟩
      · cases h
    · cases h
  · cases h

theorem glob_strs {P : Program} {w : World} {β : Book} {laid : List (String × DataW Unit)} (h : laidMetH P laid w) (hp : (laid.all fun x => x.2.handleName?.isNone) = true) (i : Nat) (name : String) {g n : Nat}
    {F : Nat → Str} (hl : laid[i]? = some (name, .agg ((List.range n).map fun j => .lit (.string (F j))))) (hg : P.globalNamed name = some g) (ho : arrSk P g n = true) (hn : 0 < n) (hb : β.free g) : GlobAt β w g n fun j => .str (bs (F j)) := by
  obtain ⟨t, e, ht, hu, he, hc, hct⟩ := arrSk_inv ho
  rw [MakeChecks.laidMetH_plain _ _ _ hp] at h
  obtain ⟨ps, hv, _, _⟩ := h
  obtain ⟨g', t', cs, fuel, p, h1, h2, h3, h4⟩ := laid_at hv hl
  obtain rfl := Option.some.inj (hg.symm.trans h1)
  obtain rfl := Option.some.inj (ht.symm.trans h2)
  obtain ⟨xs, m, rfl, hx, hlen, hxl, hel⟩ := DataW.trod_array hu h4
  simp only [Prod.mk.injEq, DataW.agg.injEq] at hx
  obtain ⟨hx, _⟩ := hx
  have cell : ∀ j, j < n → cs[j]? = some (.string (bs (F j))) := fun j hj => by
    have hj' := hel j hj
    rw [hc, Nat.mul_one, List.getElem?_eq_getElem (by omega : j < xs.length)] at hj'
    obtain ⟨v, e1, e2, _⟩ := DataW.trod_string he hj'
    have e3 : (xs.map (·.1))[j]? = some (.lit (.string v.data.toList)) := by rw [List.getElem?_map, List.getElem?_eq_getElem (by omega : j < xs.length), e2]; rfl
    rw [← hx] at e3
    simp only [List.getElem?_map, List.getElem?_range hj, Option.map_some, Option.some.injEq, DataW.lit.injEq, Lit.string.injEq] at e3
    have e5 : bs (F j) = v := by rw [e3]
    rw [e5]
    have e4 : (List.take 1 (List.drop j cs.toList))[0]? = some (.string v) := by rw [e1]; rfl
    rw [List.getElem?_take_of_lt (by decide), List.getElem?_drop, Nat.add_zero] at e4
    simpa using e4
  have hsh : ∃ el, w.shape? g = some (el, n) := by
    unfold World.var? at h3
    rw [hg] at h3
    have hsz : cs.size = n := hlen.trans hct
    unfold World.shape?
    simp only [Option.bind_some] at h3
    split at h3
    · rename_i cs' el z hb'
      cases h3
      exact ⟨el, by rw [hb', ← hsz]⟩
    · cases h3
  refine ⟨?_, hsh⟩
  refine .ipt (fun j => .string (bs (F j))) hn hb (fun j hj => ?_) (fun _ _ => rfl) (fun _ _ => .str) (fun _ _ => .str)
  rw [World.var?_cell hg h3]
  simpa using cell j hj
end Go.Am

namespace Go.Am
open Go Go.RowKit
section
variable {H : Type} {enc : TypeId × Value → H}
theorem returns_shaped {a : Assume} {C : Checked} {os : Os} {f : FuncId} {fn : Func} {s : ChangeSpec} {conds : List PathCond} {apart fresh handsOn again : Bool} {X : World → Array Value → Prop}
    (hX : ∀ (w w' : World) (args : Array Value), w.heap = w'.heap → X w args → X w' args)
    (own : ownKnob C.prog.godebug = none) (started : os.Started) (noInit : C.prog.inits.idxOf? f = none) (hfn : C.prog.funcs[f]? = some fn)
    (witness : ∃ (w : World) (tape : Tape) (i : Input), w.os = os ∧ (w.forCall tape i).Shaped C.prog ∧ i.vars = [] ∧ Input.okWide C.prog (w.forCall tape i) .any w.heap.size f i ∧
      ((s.pre enc C.prog fn conds apart (w.forCall tape i).memory i.args ∧ X (w.forCall tape i).memory i.args) ∧ sizedMet enc C.prog fn (OpenSpec.ofChange s) apart (w.forCall tape i).memory i.args) ∧ a.holds C.prog (lone (Frame.enter C.prog f i.args .normal) [] (w.forCall tape i)))
    (contract : ∀ (W : World) (base : Nat) (args : Array Value) (ds gs : List (DataW H)) (before : List MemPlace),
      (∀ (j : Nat) t v, fn.params[j]? = some t → args[j]? = some v → Value.okWide C.prog W .any base t v) →
      DataW.Whole enc C.prog fn.params.toList s.vars apart W args.toList ds gs before →
      conds.all (PathCond.test C.prog ⟨fn.params.toList, ds, s.plain.varTypes C.prog, gs⟩) = true →
      (DataW.weightsEach C.prog (fn.params.toList ++ s.plain.varTypes C.prog) (ds ++ gs)).all (· ≤ reachBytes) = true → X W args → W.ShapedOpen C.prog →
      a.holds C.prog (lone (Frame.enter C.prog f args .normal) [] W) →
      Calls C.prog f args W fun e W' => ∃ v, e = .returned v ∧ s.post enc C.prog fn apart fresh handsOn again W args v W') :
    ReturnsInHanded a C os f .any (fun w args => (s.pre enc C.prog fn conds apart w args ∧ X w args) ∧ sizedMet enc C.prog fn (OpenSpec.ofChange s) apart w args) (s.post enc C.prog fn apart fresh handsOn again) := by
  refine returnsInHanded_of_calls own started noInit witness ?_
  intro w tape i _ hsh _ hok hpre hholds
  obtain ⟨_, _, _, fn', hfn', _, _, _, _, hval⟩ := hok
  have e : fn' = fn := Option.some.inj (hfn'.symm.trans hfn)
  subst e
  obtain ⟨⟨⟨ds, gs, before, hw, hc⟩, hx⟩, hz⟩ := hpre
  have hw' := DataW.Whole.of_heap (w' := w.forCall tape i) (by rfl) hw
  refine (contract (w.forCall tape i) w.heap.size i.args ds gs before hval hw' hc (hz.weights hw) (hX _ _ _ (by rfl) hx) hsh hholds).mono fun e W' ⟨v, he, hp⟩ => ?_
  subst he
  exact ChangeSpec.post_blind hp
end
theorem glob_open {P : Program} {w : World} {β : Book} {g : Nat} {t : TypeId} {k : IntKind} (h : w.ShapedOpen P) (hg : g < P.globals.size) (h0 : ((begin P (fun _ _ => 0) default).world.heap[g]?).bind Obj.row? = some (#[.int k 0], t))
    (hb : P.buildable t = true) (hc : P.cellTypes P.depth t = some [t]) (hu : P.underlying t = some (.int k)) (hf : β.free g) : ∃ m, GlobAt β w g 1 fun _ => .int k m := by
  obtain ⟨m, hm⟩ := Go.Proofs.cell_of_shapedOpen_int h hg h0 rfl hb hc hu
  obtain ⟨cs, hh, hs, _⟩ := h.1 g _ t hg h0
  refine ⟨m, .ipt (fun _ => .int k m) (by decide) hf (fun j hj => ?_) (fun _ _ => rfl) (fun _ _ => .int) (fun _ _ => .int), t, ?_⟩
  · obtain rfl : j = 0 := Nat.lt_one_iff.1 hj
    exact hm
  · unfold World.shape?
    rw [hh]
    show some (t, cs.size) = some (t, 1)
    rw [hs]; rfl
end Go.Am
