/- Part of the proof: TryzSupShelfP, HU6, HU7, HU8, HU9, HU10, OY4, OY5, Rep1, Rep2, OY6, OY7, Stp, OY8, OY9, Trl, WZT1, Trl2. -/
import Derived.Shelf.SlSortCmp.WholeK
import Derived.Ground.SlsfProg
import Derived.Test.YtbmdmoknnlhdoaaGreatDoorProg
import Derived.Test.YtbmdmoknnlhdoaaGreatDoorM7
import Derived.Test.YtbmdmoknnlhdoaaGreatDoorM3
import Derived.StillTailTactics
import Derived.Deep.QuietTactic
import Derived.Test.YtbmdmoknnlhdoaaGreatDoorM5
import Derived.Lib.IndexMore
import Derived.Test.YtbmdmoknnlhdoaaGreatDoorM4
namespace Go.Proofs
open Go.Shelf
def Tryz.sortSup_ren : Go.Shelf.Ren := ⟨fun | 6 => 150 | 15 => 194 | 14 => 193 | 28 => 231 | 29 => 198 | 20 => 223 | 21 => 224 | 22 => 225 | 23 => 226 | 24 => 227 | 25 => 228 | 26 => 229 | 27 => 230 | 46 => 246 | 47 => 247 | 48 => 248 | 49 => 249 | 50 => 250 | 57 => 259 | n => n, fun | 22 => 22 | 24 => 85 | 25 => 163 | 3 => 3 | 39 => 99 | 0 => 0 | 53 => 234 | 55 => 206 | 4 => 4 | 46 => 284 | 45 => 283 | 50 => 49 | 5 => 5 | 9 => 9 | 66 => 306 | 70 => 164 | 76 => 313 | 77 => 88 | n => n, fun | n => n⟩
theorem Tryz.sortSup : Go.Proofs.SlLaysF0.n6 Tryz.prog Tryz.sortSup_ren := {
  mixed := by kernel_rfl
  f6 := ⟨Tryz.f150.name, by decide, Tryz.func150.trans (congrArg some (by kernel_rfl))⟩
  f14 := ⟨Tryz.f193.name, by decide, Tryz.func193.trans (congrArg some (by kernel_rfl))⟩
  f15 := Tryz.func194.trans (congrArg some (by kernel_rfl))
  f20 := ⟨Tryz.f223.name, by decide, Tryz.func223.trans (congrArg some (by kernel_rfl))⟩
  f21 := ⟨Tryz.f224.name, by decide, Tryz.func224.trans (congrArg some (by kernel_rfl))⟩
  f22 := ⟨Tryz.f225.name, by decide, Tryz.func225.trans (congrArg some (by kernel_rfl))⟩
  f23 := ⟨Tryz.f226.name, by decide, Tryz.func226.trans (congrArg some (by kernel_rfl))⟩
  f24 := ⟨Tryz.f227.name, by decide, Tryz.func227.trans (congrArg some (by kernel_rfl))⟩
  f25 := ⟨Tryz.f228.name, by decide, Tryz.func228.trans (congrArg some (by kernel_rfl))⟩
  f26 := ⟨Tryz.f229.name, by decide, Tryz.func229.trans (congrArg some (by kernel_rfl))⟩
  f27 := ⟨Tryz.f230.name, by decide, Tryz.func230.trans (congrArg some (by kernel_rfl))⟩
  f28 := Tryz.func231.trans (congrArg some (by kernel_rfl))
  f29 := Tryz.func198.trans (congrArg some (by kernel_rfl))
  f46 := ⟨Tryz.f246.name, by decide, Tryz.func246.trans (congrArg some (by kernel_rfl))⟩
  f47 := Tryz.func247.trans (congrArg some (by kernel_rfl))
  f48 := Tryz.func248.trans (congrArg some (by kernel_rfl))
  f49 := ⟨Tryz.f249.name, by decide, Tryz.func249.trans (congrArg some (by kernel_rfl))⟩
  f50 := ⟨Tryz.f250.name, by decide, Tryz.func250.trans (congrArg some (by kernel_rfl))⟩
  f57 := ⟨Tryz.f259.name, by decide, Tryz.func259.trans (congrArg some (by kernel_rfl))⟩
  t0 := Tryz.underlying0
  a0 := Tryz.isAgg0
  z0 := Tryz.sizeOf0
  v0 := Tryz.zeroValue0
  t3 := Tryz.underlying3
  a3 := Tryz.isAgg3
  z3 := Tryz.sizeOf3
  v3 := Tryz.zeroValue3
  t4 := Tryz.underlying4
  a4 := Tryz.isAgg4
  z4 := Tryz.sizeOf4
  v4 := Tryz.zeroValue4
  t5 := Tryz.underlying5
  a5 := Tryz.isAgg5
  z5 := Tryz.sizeOf5
  v5 := Tryz.zeroValue5
  t9 := Tryz.underlying9
  a9 := Tryz.isAgg9
  z9 := Tryz.sizeOf9
  v9 := Tryz.zeroValue9
  t22 := Tryz.underlying22
  a22 := Tryz.isAgg22
  z22 := Tryz.sizeOf22
  v22 := Tryz.zeroValue22
  t25 := Tryz.underlying163
  a25 := Tryz.isAgg163
  z25 := Tryz.sizeOf163
  v25 := Tryz.zeroValue163
  t39 := Tryz.underlying99
  a39 := Tryz.isAgg99
  z39 := Tryz.sizeOf99
  v39 := Tryz.zeroValue99
  t45 := Tryz.underlying283
  a45 := Tryz.isAgg283
  z45 := Tryz.sizeOf283
  v45 := Tryz.zeroValue283
  t46 := Tryz.underlying284
  a46 := Tryz.isAgg284
  z46 := Tryz.sizeOf284
  v46 := Tryz.zeroValue284
  t50 := Tryz.underlying49
  a50 := Tryz.isAgg49
  z50 := Tryz.sizeOf49
  v50 := Tryz.zeroValue49
  t53 := Tryz.underlying234
  a53 := Tryz.isAgg234
  z53 := Tryz.sizeOf234
  v53 := Tryz.zeroValue234
  t55 := Tryz.underlying206
  a55 := Tryz.isAgg206
  z55 := Tryz.sizeOf206
  v55 := Tryz.zeroValue206
  t66 := Tryz.underlying306
  a66 := Tryz.isAgg306
  z66 := Tryz.sizeOf306
  v66 := Tryz.zeroValue306
  t70 := Tryz.underlying164
  a70 := Tryz.isAgg164
  z70 := Tryz.sizeOf164
  v70 := Tryz.zeroValue164
  t76 := Tryz.underlying313
  a76 := Tryz.isAgg313
  z76 := Tryz.sizeOf313
  v76 := Tryz.zeroValue313
  t77 := Tryz.underlying88
  a77 := Tryz.isAgg88
  z77 := Tryz.sizeOf88
  v77 := Tryz.zeroValue88 }
end Go.Proofs

namespace Go.Proofs.YtbmdmoknnlhdoaaGreatDoor.U
open Go Go.Am Go.Sp Go.RowKit Go.Shelf Go.Sort
set_option maxRecDepth 100000

theorem nan_w (n : Int) (W : World) : Calls Tryz.prog 195 #[.int .i64 n] W fun e w' => e = .returned (.bool false) ∧ w' = W := by
  go_enter Tryz.func195, Tryz.ntmps195
  go_wp2
  go_ret
  exact ⟨rfl, rfl⟩
theorem cmpI_w (a b : Int) (W : World) : Calls Tryz.prog 153 #[.int .i64 a, .int .i64 b] W fun e w' => e = .returned (.int .i64 (cmpI a b)) ∧ w' = W := by
  have h1 := nan_w a W
  have h2 := nan_w b W
  go_enter Tryz.func153, Tryz.ntmps153
  go_wp2_with (go_at_call 195; first | (refine h1.mono ?_; rintro e w' ⟨rfl, rfl⟩) | (refine h2.mono ?_; rintro e w' ⟨rfl, rfl⟩))
  all_goals (go_ret; refine ⟨?_, rfl⟩; unfold cmpI; simp; try omega)
theorem or_w (a b c : Int) (B : Nat) (W : World) (h0 : W.cell? ⟨B, 0, none⟩ = some (.int .i64 a)) (h1 : W.cell? ⟨B, 1, none⟩ = some (.int .i64 b)) (h2 : W.cell? ⟨B, 2, none⟩ = some (.int .i64 c)) : Calls Tryz.prog 152 #[.slice (some ⟨B, 0, none⟩) 3 3] W fun e w' => e = .returned (.int .i64 (if a ≠ 0 then a else if b ≠ 0 then b else c)) ∧ w' = W := by
  go_enter Tryz.func152, Tryz.ntmps152
  go_wp2
  refine wp_loop_rounds 4 ?_
  rw [rounds_succ]
  go_wp2
  all_goals try (go_ret; exact ⟨by simp_all, rfl⟩)
  all_goals (rw [rounds_succ]; go_wp2)
  all_goals try (go_ret; exact ⟨by simp_all, rfl⟩)
  all_goals (rw [rounds_succ]; go_wp2)
  all_goals try (go_ret; exact ⟨by simp_all, rfl⟩)
  all_goals (rw [rounds_succ]; go_wp2)
  all_goals (go_ret; exact ⟨by simp_all, rfl⟩)
theorem compare_w (a b : Sup) (W : World) : Calls Tryz.prog 103 #[rowV (supI a), rowV (supI b)] W fun e w' => e = .returned (.int .i64 (cmpS a b)) ∧ ∃ q os', w' = grow (W.drewN q) os' := by
  unfold rowV
  have ho : ∀ (B : Nat) (V : World), V.cell? ⟨B, 0, none⟩ = some (.int .i64 (cmpI a.bank b.bank)) → V.cell? ⟨B, 1, none⟩ = some (.int .i64 (cmpI a.epoch b.epoch)) → V.cell? ⟨B, 2, none⟩ = some (.int .i64 (cmpI a.denom b.denom)) → Calls Tryz.prog 152 #[.slice (some ⟨B, 0, none⟩) 3 3] V fun e w' => e = .returned (.int .i64 (cmpS a b)) ∧ w' = V := or_w _ _ _
  generalize cmpS a b = R at ho ⊢
  go_enter Tryz.func103, Tryz.ntmps103
  go_wp2
  have hz : (W.alloc (.cells #[.int .i64 (supI a 0), .int .i64 (supI a 1), .int .i64 (supI a 2), .int .i64 (supI a 3), .int .i64 (supI a 4), .int .i64 (supI a 5), .int .i64 (supI a 6)] 85)).heap.size = W.heap.size + 1 := by simp
  have hA := alloc_cell (w := W) (cs := #[.int .i64 (supI a 0), .int .i64 (supI a 1), .int .i64 (supI a 2), .int .i64 (supI a 3), .int .i64 (supI a 4), .int .i64 (supI a 5), .int .i64 (supI a 6)]) (t := 85)
  have hB := alloc_cell (w := W.alloc (.cells #[.int .i64 (supI a 0), .int .i64 (supI a 1), .int .i64 (supI a 2), .int .i64 (supI a 3), .int .i64 (supI a 4), .int .i64 (supI a 5), .int .i64 (supI a 6)] 85)) (cs := #[.int .i64 (supI b 0), .int .i64 (supI b 1), .int .i64 (supI b 2), .int .i64 (supI b 3), .int .i64 (supI b 4), .int .i64 (supI b 5), .int .i64 (supI b 6)]) (t := 85)
  rw [hz] at hB
  have hA2 : ∀ j, ((W.alloc (.cells #[.int .i64 (supI a 0), .int .i64 (supI a 1), .int .i64 (supI a 2), .int .i64 (supI a 3), .int .i64 (supI a 4), .int .i64 (supI a 5), .int .i64 (supI a 6)] 85)).alloc (.cells #[.int .i64 (supI b 0), .int .i64 (supI b 1), .int .i64 (supI b 2), .int .i64 (supI b 3), .int .i64 (supI b 4), .int .i64 (supI b 5), .int .i64 (supI b 6)] 85)).cell? ⟨W.heap.size, j, none⟩ = #[.int .i64 (supI a 0), .int .i64 (supI a 1), .int .i64 (supI a 2), .int .i64 (supI a 3), .int .i64 (supI a 4), .int .i64 (supI a 5), .int .i64 (supI a 6)][j]? := fun j => by
    rw [← hA j, alloc_eq_grow (W.alloc _), cell?_grow _ _ _ (by rw [hz]; exact Nat.lt_succ_self _)]
  have hg : ∃ os, (W.alloc (.cells #[.int .i64 (supI a 0), .int .i64 (supI a 1), .int .i64 (supI a 2), .int .i64 (supI a 3), .int .i64 (supI a 4), .int .i64 (supI a 5), .int .i64 (supI a 6)] 85)).alloc (.cells #[.int .i64 (supI b 0), .int .i64 (supI b 1), .int .i64 (supI b 2), .int .i64 (supI b 3), .int .i64 (supI b 4), .int .i64 (supI b 5), .int .i64 (supI b 6)] 85) = grow W os := ⟨_, by rw [alloc_eq_grow, alloc_eq_grow, grow_grow]⟩
  clear hA
  generalize (W.alloc (.cells #[.int .i64 (supI a 0), .int .i64 (supI a 1), .int .i64 (supI a 2), .int .i64 (supI a 3), .int .i64 (supI a 4), .int .i64 (supI a 5), .int .i64 (supI a 6)] 85)).alloc (.cells #[.int .i64 (supI b 0), .int .i64 (supI b 1), .int .i64 (supI b 2), .int .i64 (supI b 3), .int .i64 (supI b 4), .int .i64 (supI b 5), .int .i64 (supI b 6)] 85) = W2 at hA2 hB hg ⊢
  obtain ⟨os, hg⟩ := hg
  refine wp_region_still_tail 15 mixed (by kernel_rfl) ?_
  simp only [List.take_succ_cons, List.take_zero, List.drop_succ_cons, List.drop_zero]
  change wpStill _ _ W2.drew (fun a' => wpList _ _ _ _ a' W2.drew) _ _
  have a0 : W2.drew.cell? ⟨W.heap.size, 0, none⟩ = some (.int .i64 a.bank) := hA2 0
  have a1 : W2.drew.cell? ⟨W.heap.size, 1, none⟩ = some (.int .i64 a.epoch) := hA2 1
  have a2 : W2.drew.cell? ⟨W.heap.size, 2, none⟩ = some (.int .i64 a.denom) := hA2 2
  have b0 : W2.drew.cell? ⟨W.heap.size + 1, 0, none⟩ = some (.int .i64 b.bank) := hB 0
  have b1 : W2.drew.cell? ⟨W.heap.size + 1, 1, none⟩ = some (.int .i64 b.epoch) := hB 1
  have b2 : W2.drew.cell? ⟨W.heap.size + 1, 2, none⟩ = some (.int .i64 b.denom) := hB 2
  have hd : Hid (W2.drew = grow (W.drewN 1) os) := (show W2.drew = grow (W.drewN 1) os by rw [hg]; rfl)
  clear hA2 hB hg hz
  generalize W2.drew = W3 at *
  repeat (first | still_step | still_call (cmpI_w _ _ _))
  refine wpStill_nil ?_
  clear a0 a1 a2 b0 b1 b2
  have ho := ho W3.heap.size (W3.alloc (.cells #[.int .i64 (cmpI a.bank b.bank), .int .i64 (cmpI a.epoch b.epoch), .int .i64 (cmpI a.denom b.denom)] 3)) (alloc_cell 0) (alloc_cell 1) (alloc_cell 2)
  go_wp2_with (go_at_call 152; refine ho.mono ?_; rintro e w' ⟨rfl, rfl⟩)
  go_ret
  exact ⟨rfl, 1, os ++ #[.cells #[.int .i64 (cmpI a.bank b.bank), .int .i64 (cmpI a.epoch b.epoch), .int .i64 (cmpI a.denom b.denom)] 3], by rw [alloc_eq_grow, hd.out, grow_grow]⟩


def encS (s : Sup) : List Value := [.int .i64 s.bank, .int .i64 s.epoch, .int .i64 s.denom, .int .i64 s.issued, .int .i64 s.ret, .int .i64 s.dbl, .int .i64 s.exp]
theorem rel_fn0 {β : Book} {w : World} {F : Fn} {v : Value} (h : Rel β w (.fn F [] []) v) : v = .func F #[] #[] := by
  cases h with
  | @fn _ _ _ vf vs h1 h2 h3 h4 =>
    have e1 : vf = #[] := Array.eq_empty_of_size_eq_zero (by simpa using h1.symm)
    have e2 : vs = #[] := Array.eq_empty_of_size_eq_zero (by simpa using h3.symm)
    rw [e1, e2]
theorem encS_at {β : Book} {w : World} (s : Sup) {j : Nat} (hj : j < 7) : (∀ v, Rel β w (atL s.cells j) v → v = (encS s)[j]!) ∧ Rel β w (atL s.cells j) (encS s)[j]! ∧ ((encS s)[j]!).oneCell' = true := by
  have : j = 0 ∨ j = 1 ∨ j = 2 ∨ j = 3 ∨ j = 4 ∨ j = 5 ∨ j = 6 := by omega
  rcases this with rfl | rfl | rfl | rfl | rfl | rfl | rfl <;> exact ⟨fun v h => rel_int_inv h, .int, rfl⟩

theorem sort_c (n : Nat) (f : Nat → Sup) (hn : 0 < n) (hn' : n ≤ 100000) : Gives Tryz.prog gl0 150 [⟨7, n, true, .row fun i => (f i).cells⟩] [.osl 0 7 0 n, .fn (.func 103) [] []] (.tup []) [some ⟨7, n, true, .row fun i => (srtF n f i).cells⟩] := by
  refine ⟨⟨_, _, Tryz.func150, rfl, by kernel_rfl⟩, fun β w vs hF hG hg ha => ?_⟩
  obtain ⟨u, v, rfl, h1, h2⟩ := rels2 ha
  rw [rel_fn0 h2]
  have H0 := hG.holds 0 _ rfl
  rcases H0 with ⟨b, e1, cs, el, hb, hsz, hcell⟩ | ⟨_, h0⟩
  rotate_left
  · have h0 : n = 0 := h0
    omega
  have hsz : n * 7 ≤ cs.size := hsz.le
  have hcell : ∀ i j, i < n → j < 7 → ∃ v, cs[i * 7 + j]? = some v ∧ Rel β w (atL (f i).cells j) v ∧ v.oneCell' = true := hcell
  obtain ⟨cap, rfl⟩ : ∃ cap, u = .slice (some ⟨b, 0, none⟩) n cap := by
    cases h1 with
    | osl h _ _ _ _ => rw [e1] at h; cases h; exact ⟨_, by rw [Nat.zero_mul]⟩
    | osl0 h => omega
    | oslD h => rw [e1] at h; cases h
  have hlt : b < w.heap.size := (Array.getElem?_eq_some_iff.1 hb).1
  have hds : (arrS n f).size = n := arrS_size n f
  have key : ∀ t, t < n * 7 → cs[t]? = some (encS (f (t / 7)))[t % 7]! := fun t ht => by
    obtain ⟨x, x1, x2, _⟩ := hcell (t / 7) (t % 7) (by omega) (by omega)
    rw [show t / 7 * 7 + t % 7 = t by omega] at x1
    rw [x1, (encS_at (f (t / 7)) (by omega)).1 x x2]
  have hH : HoldsK encS 7 w b 0 (arrS n f) := fun t ht => by
    have ht : t < n * 7 := by simpa [hds] using ht
    refine ⟨?_, ?_⟩
    · simp only [World.cell?, hb, Nat.zero_add]
      rw [get_flatK _ _ _ _ (by rw [hds]; exact ht), arrS_at (by omega)]
      exact key t ht
    · simp only [World.frozen?, hb]; simp
  have hcon := AnyQ.slices_SortFunc_eq Tryz.sortSup 7 (fun w => isAgg_run w (show isAggT Tryz.prog 85 = some true by kernel_rfl)) (fun w => szT_run w (show szT Tryz.prog 85 = some 7 by kernel_rfl)) encS (fun _ => rfl) (fun x v hv => by
      simp only [encS, List.mem_cons, List.not_mem_nil, or_false] at hv
      rcases hv with rfl | rfl | rfl | rfl | rfl | rfl | rfl <;> rfl) cmpS swoS 103 #[] b 0 cap (arrS n f) w (enters_of Tryz.func103 (by kernel_rfl) rfl) (fun m os dk hs x y => compare_w x y _) hH hlt (by rw [hds]; omega)
  rw [hds] at hcon
  refine hcon.mono fun e w' hh => ?_
  obtain ⟨he, q, os, hw⟩ := hh
  have hb' : w'.heap[b]? = some (.cells (putCells id 0 (flatK encS 7 (srtA n f)) cs) el (0, 0)) := by
    rw [hw]
    unfold sortWorldK putRowK putRow
    rw [heap_grow_old _ _ (by simpa [mapBlock, Sort.ahead] using hlt)]
    simp only [mapBlock, Array.getElem?_modify, Sort.ahead, hb, if_true, Option.map_some, onCells]
    rfl
  have hother : ∀ k, k < w.heap.size → k ≠ b → w'.heap[k]? = w.heap[k]? := fun k hk hne => by
    rw [hw]
    unfold sortWorldK putRowK putRow
    rw [heap_grow_old _ _ (by simpa [mapBlock, Sort.ahead] using hk)]
    simp only [mapBlock, Array.getElem?_modify, Sort.ahead, if_neg (Ne.symm hne)]
  have hsize : w.heap.size ≤ w'.heap.size := by
    rw [hw]; simp [sortWorldK, grow, putRowK, putRow, mapBlock, Sort.ahead]
  have hpz : (putCells id 0 (flatK encS 7 (srtA n f)) cs).size = cs.size := by simp [putCells]
  have hput : ∀ t, t < n * 7 → (putCells id 0 (flatK encS 7 (srtA n f)) cs)[t]? = some (encS (srtF n f (t / 7)))[t % 7]! := fun t ht => by
    have hc : t < cs.size := by omega
    have hf : t < (flatK encS 7 (srtA n f)).size := by rw [size_flatK, srtA_size]; exact ht
    simp only [putCells, Array.getElem?_mapIdx, Array.getElem?_eq_getElem hc, Option.map_some, Nat.zero_add, Nat.zero_le, true_and, if_pos hf, Nat.sub_zero, id]
    rw [get_flatK _ _ _ _ (by rw [srtA_size]; exact ht)]; rfl
  have hfr : ∀ id' o', β.m id' = some o' → id' = 0 := fun id' o' h => by
    rcases Nat.lt_or_ge id' 1 with h' | h'
    · omega
    · rw [hG.none id' h'] at h; cases h
  refine ⟨_, β, he, ⟨?_, ?_, ?_, hsize, fun k hk hG' => hother k hk (fun e => hG' (e ▸ ⟨0, _, _, e1⟩)), fun k hk => ?_, fun k o hk ho => ?_⟩, ⟨rfl, fun k ob hk => ?_, hG.none, hG.inj, fun k b' m mu h => ?_, fun k o h => ⟨o, h, o.later_refl⟩⟩, ?_⟩
  · rw [hw]; rfl
  · rw [hw]; rfl
  · rw [hw]; rfl
  · by_cases e : k = b
    · subst e
      unfold World.shape?
      rw [hb', hb]
      show some (el, _) = some (el, _)
      rw [hpz]
    · exact shape_of_block (hother k hk e)
  · by_cases e : k = b
    · subst e; rw [hb] at hk; cases hk; cases ho
    · rw [hother k (Array.getElem?_eq_some_iff.1 hk).1 e]; exact hk
  · match k, hk with
    | 0, hk =>
      cases hk
      refine .inl ⟨b, e1, _, el, hb', ⟨by rw [hpz]; exact hsz, fun t ht => nomatch ht⟩, fun i j hi hj => ?_⟩
      have hi : i < n := hi
      have hj : j < 7 := hj
      have hq := hput (i * 7 + j) (by omega)
      rw [show (i * 7 + j) / 7 = i by omega, show (i * 7 + j) % 7 = j by omega] at hq
      exact ⟨_, hq, (encS_at (srtF n f i) hj).2.1, (encS_at (β := β) (w := w') (srtF n f i) hj).2.2⟩
    | k + 1, hk => simp at hk
  · obtain rfl := hfr k _ h
    rw [e1] at h
    cases h
    exact ⟨Nat.lt_of_lt_of_le hlt hsize, .inr ⟨0, _, _, e1⟩⟩
  · exact .tup rfl (fun j u v hu => by simp at hu)

def owS : FuncId → Option (List Bool) := fun f =>
  bif Nat.beq f 192 then some [false, false] else
  bif Nat.beq f 149 then some [false] else
  bif Nat.beq f 150 then some [true, false] else none
theorem collect_c (n : Nat) (f : Nat → Sup) (hn : n ≤ 100000) : Gives Tryz.prog gl0 149 [] [.fn (.func 151) [] [.ipt 1 fun _ => supA n f]] (.osl 0 7 0 n) [some ⟨7, n, true, .row fun i => (preS f (List.finRange n) i).cells⟩] := by
  have c1 := appendSeq_c n f hn
  refine gives_sk (own := owS) (hand := true) Tryz.func149 (by kernel_rfl) mixed (by kernel_rfl)
    (.gc 192 ([]) ([AV.nsl, AV.fn (Fn.func (151 : FuncId)) [] [AV.ipt (1) fun (x : Nat) => AV.isl (7) n fun (i j : Nat) => atL (Sup.cells (f i)) j]]) (AV.osl (0 : Nat) (7 : Nat) (0 : Nat) n) ([some { es := (7 : Nat), n := n, mu := true, f := Rep.row fun (i : Nat) => Sup.cells (preS f (List.finRange n) i) }]) (.out (AV.osl (0) (7) (0) n) ([some { es := 7, n := n, mu := true, f := Rep.row fun (i : Nat) => Sup.cells (preS f (List.finRange n) i) }]) (AV.osl (0 : Nat) (7 : Nat) (0 : Nat) n) ([some { es := (7 : Nat), n := n, mu := true, f := Rep.row fun (i : Nat) => Sup.cells (preS f (List.finRange n) i) }])))
    (by kernel_rfl) ?_
  refine k_gc (c1) ?_
  exact k_outg (Ent.of_eq (by first | rfl | simp_all)) (by repeat' (first | exact trivial | (first | exact ObEnt.refl _ | exact ObEnt.junk | exact ObEnt.zero | exact ObEnt.push rfl rfl | exact ObEnt.pushRow rfl | exact ObEnt.len (by omega) | exact ObEnt.row (by repeat' (first | exact trivial | (first | exact Ent.refl _ | exact inc_ent (by omega) | exact Ent.nil rfl | exact Ent.of_eq (congrArg (AV.osl _ _ _) (by first | omega | (dsimp only; omega))) | exact Ent.of_eq (congrArg (AV.int _) (by first | omega | (dsimp only; omega)))) | refine And.intro ?_ ?_))) | refine And.intro ?_ ?_))
theorem sorted_c (n : Nat) (f : Nat → Sup) (hn0 : 0 < n) (hn : n ≤ 100000) : Pure Tryz.prog gl0 101 [.fn (.func 151) [] [.ipt 1 fun _ => supA n f], .fn (.func 103) [] []] (supA n (srtF n (preS f (List.finRange n)))) := by
  have c1 := collect_c n f hn
  have c2 := sort_c n (preS f (List.finRange n)) hn0 hn
  refine pure_sk (own := owS) Tryz.func101 (by kernel_rfl) mixed (by kernel_rfl)
    (.gc 149 ([]) ([AV.fn (Fn.func (151 : FuncId)) [] [AV.ipt (1) fun (x : Nat) => AV.isl (7) n fun (i j : Nat) => atL (Sup.cells (f i)) j]]) (AV.osl (0 : Nat) (7 : Nat) (0 : Nat) n) ([some { es := (7 : Nat), n := n, mu := true, f := Rep.row fun (i : Nat) => Sup.cells (preS f (List.finRange n) i) }]) (.gc 150 ([{ es := 7, n := n, mu := true, f := Rep.row fun (i : Nat) => Sup.cells (preS f (List.finRange n) i) }]) ([AV.osl (0) (7) (0) n, AV.fn (Fn.func (103 : FuncId)) [] []]) (AV.tup []) ([some { es := (7 : Nat), n := n, mu := true, f := Rep.row fun (i : Nat) => Sup.cells (srtF n (preS f (List.finRange n)) i) }]) (.out (AV.isl (7) n fun (r k : Nat) => atL (Sup.cells (srtF n (preS f (List.finRange n)) (r + (0 : Nat)))) k) [] (supA n (srtF n (preS f (List.finRange n)))) [])))
    (by kernel_rfl) ?_
  refine k_gc (c1) ?_
  refine k_gc (c2) ?_
  exact k_out (Ent.of_eq (by first | rfl | simp_all))

end Go.Proofs.YtbmdmoknnlhdoaaGreatDoor.U

namespace Go.Proofs.YtbmdmoknnlhdoaaGreatDoor.U
open Go Go.Am Go.Sp Go.Sort
set_option maxRecDepth 100000

def owT (n : Nat) : FuncId → Option (List Bool) := fun f => bif Nat.beq f 999999999 then some (List.replicate n true) else
  bif Nat.beq f 223 then some [true, false, false, false] else
  bif Nat.beq f 193 then some [true, false, false, false, false] else owS f
theorem len64_0 : Pure Tryz.prog gl0 198 [.int .u64 0] (.int .i64 0) := by
  refine pure_sk (own := (owT 5)) Tryz.func198 (by kernel_rfl) mixed (by kernel_rfl)
    (.ff (.ff (.ff (.req ((0 : Int) ≤ IntKind.wrap IntKind.u8 (0 : Int) ∧ IntKind.wrap IntKind.u8 (0 : Int) < (↑(256) : Int)) (.out (Zi (IntKind.wrap IntKind.i64 ((0 : Int) + IntKind.wrap IntKind.i64 (↑(0) : Int)))) [] (Zi 0) [])))))
    (by kernel_rfl) ?_
  refine k_ff ?_
  refine k_ff ?_
  refine k_ff ?_
  refine k_req (by decide) ?_
  exact k_out (Ent.of_eq (by first | rfl | simp_all))
theorem len_0 : Pure Tryz.prog gl0 194 [.int .u64 0] (.int .i64 0) := by
  refine pure_sk (own := ow0) Tryz.func194 (by kernel_rfl) mixed (by kernel_rfl)
    (.ff (.sc (true) 198 ([Zu 0]) (Zi 0) (.out (Zi 0) [] (Zi 0) [])))
    (by kernel_rfl) ?_
  refine k_ff ?_
  refine k_sc (len64_0) ?_
  exact k_out (Ent.of_eq (by first | rfl | simp_all))
theorem ins_0 (R : Nat → Sup) : Gives Tryz.prog gl0 223 [⟨7, 0, true, .row fun i => (R i).cells⟩] [.osl 0 7 0 0, .int .i64 0, .int .i64 0, .fn (.func 103) [] []] (.tup []) [some ⟨7, 0, true, .row fun i => (R i).cells⟩] := by
  refine gives_sk (own := (owT 2)) (hand := true) Tryz.func223 (by kernel_rfl) mixed (by kernel_rfl)
    (.ff (.out (AV.tup []) ([some { es := 7, n := 0, mu := true, f := Rep.row fun (i : Nat) => Sup.cells (R i) }]) (AV.tup []) ([some { es := (7 : Nat), n := (0 : Nat), mu := true, f := Rep.row fun (i : Nat) => Sup.cells (R i) }])))
    (by kernel_rfl) ?_
  refine k_ff ?_
  exact k_outg (Ent.of_eq (by first | rfl | simp_all)) (by repeat' (first | exact trivial | (first | exact ObEnt.refl _ | exact ObEnt.junk | exact ObEnt.zero | exact ObEnt.push rfl rfl | exact ObEnt.pushRow rfl | exact ObEnt.len (by omega) | exact ObEnt.row (by repeat' (first | exact trivial | (first | exact Ent.refl _ | exact inc_ent (by omega) | exact Ent.nil rfl | exact Ent.of_eq (congrArg (AV.osl _ _ _) (by first | omega | (dsimp only; omega))) | exact Ent.of_eq (congrArg (AV.int _) (by first | omega | (dsimp only; omega)))) | refine And.intro ?_ ?_))) | refine And.intro ?_ ?_))
theorem pdq_0 (R : Nat → Sup) : Gives Tryz.prog gl0 193 [⟨7, 0, true, .row fun i => (R i).cells⟩] [.osl 0 7 0 0, .int .i64 0, .int .i64 0, .int .i64 0, .fn (.func 103) [] []] (.tup []) [some ⟨7, 0, true, .row fun i => (R i).cells⟩] := by
  have c := ins_0 R
  refine gives_sk (own := (owT 2)) (hand := true) Tryz.func193 (by kernel_rfl) mixed (by kernel_rfl)
    (.tt (.gc 223 ([{ es := 7, n := 0, mu := true, f := Rep.row fun (i : Nat) => Sup.cells (R i) }]) ([AV.osl (0) (7) (0) (0), Zi 0, Zi 0, AV.fn (Fn.func (103 : FuncId)) [] []]) (AV.tup []) ([some { es := (7 : Nat), n := (0 : Nat), mu := true, f := Rep.row fun (i : Nat) => Sup.cells (R i) }]) (.out (AV.tup []) ([some { es := 7, n := 0, mu := true, f := Rep.row fun (i : Nat) => Sup.cells (R i) }]) (AV.tup []) ([some { es := (7 : Nat), n := (0 : Nat), mu := true, f := Rep.row fun (i : Nat) => Sup.cells (R i) }]))))
    (by kernel_rfl) ?_
  refine k_tt ?_
  refine k_gc (c) ?_
  exact k_outg (Ent.of_eq (by first | rfl | simp_all)) (by repeat' (first | exact trivial | (first | exact ObEnt.refl _ | exact ObEnt.junk | exact ObEnt.zero | exact ObEnt.push rfl rfl | exact ObEnt.pushRow rfl | exact ObEnt.len (by omega) | exact ObEnt.row (by repeat' (first | exact trivial | (first | exact Ent.refl _ | exact inc_ent (by omega) | exact Ent.nil rfl | exact Ent.of_eq (congrArg (AV.osl _ _ _) (by first | omega | (dsimp only; omega))) | exact Ent.of_eq (congrArg (AV.int _) (by first | omega | (dsimp only; omega)))) | refine And.intro ?_ ?_))) | refine And.intro ?_ ?_))
theorem sort_0 (R : Nat → Sup) : Gives Tryz.prog gl0 150 [⟨7, 0, true, .row fun i => (R i).cells⟩] [.osl 0 7 0 0, .fn (.func 103) [] []] (.tup []) [some ⟨7, 0, true, .row fun i => (R i).cells⟩] := by
  have c := pdq_0 R
  refine gives_sk (own := (owT 2)) (hand := true) Tryz.func150 (by kernel_rfl) mixed (by kernel_rfl)
    (.sc (true) 194 ([Zu (IntKind.wrap IntKind.u64 (↑(0) : Int))]) (Zi 0) (.gc 193 ([{ es := 7, n := 0, mu := true, f := Rep.row fun (i : Nat) => Sup.cells (R i) }]) ([AV.osl (0) (7) (0) (0), Zi 0, Zi (↑(0) : Int), Zi 0, AV.fn (Fn.func (103 : FuncId)) [] []]) (AV.tup []) ([some { es := (7 : Nat), n := (0 : Nat), mu := true, f := Rep.row fun (i : Nat) => Sup.cells (R i) }]) (.out (AV.tup []) ([some { es := 7, n := 0, mu := true, f := Rep.row fun (i : Nat) => Sup.cells (R i) }]) (AV.tup []) ([some { es := (7 : Nat), n := (0 : Nat), mu := true, f := Rep.row fun (i : Nat) => Sup.cells (R i) }]))))
    (by kernel_rfl) ?_
  refine k_sc (len_0) ?_
  refine k_gc (c) ?_
  exact k_outg (Ent.of_eq (by first | rfl | simp_all)) (by repeat' (first | exact trivial | (first | exact ObEnt.refl _ | exact ObEnt.junk | exact ObEnt.zero | exact ObEnt.push rfl rfl | exact ObEnt.pushRow rfl | exact ObEnt.len (by omega) | exact ObEnt.row (by repeat' (first | exact trivial | (first | exact Ent.refl _ | exact inc_ent (by omega) | exact Ent.nil rfl | exact Ent.of_eq (congrArg (AV.osl _ _ _) (by first | omega | (dsimp only; omega))) | exact Ent.of_eq (congrArg (AV.int _) (by first | omega | (dsimp only; omega)))) | refine And.intro ?_ ?_))) | refine And.intro ?_ ?_))
theorem sorted_0 (f : Nat → Sup) : Pure Tryz.prog gl0 101 [.fn (.func 151) [] [.ipt 1 fun _ => supA 0 f], .fn (.func 103) [] []] (supA 0 f) := by
  have c1 := collect_c 0 f (by omega)
  have c2 := sort_0 (preS f (List.finRange 0))
  refine pure_sk (own := owS) Tryz.func101 (by kernel_rfl) mixed (by kernel_rfl)
    (.gc 149 ([]) ([AV.fn (Fn.func (151 : FuncId)) [] [AV.ipt (1) fun (x : Nat) => AV.isl (7) (0) fun (i j : Nat) => atL (Sup.cells (f i)) j]]) (AV.osl (0 : Nat) (7 : Nat) (0 : Nat) (0 : Nat)) ([some { es := (7 : Nat), n := (0 : Nat), mu := true, f := Rep.row fun (i : Nat) => Sup.cells (preS f (List.finRange (0 : Nat)) i) }]) (.gc 150 ([{ es := 7, n := 0, mu := true, f := Rep.row fun (i : Nat) => Sup.cells (preS f (List.finRange (0 : Nat)) i) }]) ([AV.osl (0) (7) (0) (0), AV.fn (Fn.func (103 : FuncId)) [] []]) (AV.tup []) ([some { es := (7 : Nat), n := (0 : Nat), mu := true, f := Rep.row fun (i : Nat) => Sup.cells (preS f (List.finRange (0 : Nat)) i) }]) (.out (AV.isl (7) (0) fun (r k : Nat) => atL [Zi default, Zi default, Zi default, Zi default, Zi default, Zi default, Zi default] k) [] (supA (0 : Nat) f) [])))
    (by kernel_rfl) ?_
  refine k_gc (c1) ?_
  refine k_gc (c2) ?_
  exact k_out (Ent.isl fun i j hi _ => absurd hi (Nat.not_lt_zero i))

end Go.Proofs.YtbmdmoknnlhdoaaGreatDoor.U

namespace Go.Proofs.YtbmdmoknnlhdoaaGreatDoor.U
open Go Go.Am Go.Sp
set_option maxRecDepth 100000

theorem sorted_all (n : Nat) (f : Nat → Sup) (hn : n ≤ 100000) : Pure Tryz.prog gl0 101 [.fn (.func 151) [] [.ipt 1 fun _ => supA n f], .fn (.func 103) [] []] (supA n (srtF n f)) := by
  by_cases h : n = 0
  · subst h
    exact (sorted_0 f).ent (Ent.isl fun i j hi _ => absurd hi (Nat.not_lt_zero i))
  · have := sorted_c n f (by omega) hn
    rwa [srtF_congr (fun i hi => preS_fin hi)] at this
theorem proper_c (n : Nat) (f : Nat → Sup) (hn : n ≤ 100000) : Pure Tryz.prog gl0 62 [supA n f] (.bool (listB n f)) := by
  have c1 := containsS_w 100 f n (fun i => !validS (f i)) (by omega) (fun i _ => not2_c (f i))
  have c2 := values_c n f
  have c3 := sorted_all n f hn
  refine pure_sk (own := ow0) Tryz.func62 (by kernel_rfl) mixed (by kernel_rfl)
    (.sc (decide ((↑n : Int) > (1000 : Int)) == false) 99 ([AV.isl (7) n fun (i j : Nat) => atL (Sup.cells (f i)) j, AV.fn (Fn.func (100 : Nat)) [] []]) (AV.bool (anyI (fun (i : Nat) => !validS (f i)) n)) (.br (decide ((↑n : Int) > (1000 : Int)) || anyI (fun (i : Nat) => !validS (f i)) n) (.out (AV.bool false) [] (AV.bool (listB n f)) []) (.dc (true) 102 ([AV.isl (7) n fun (i j : Nat) => atL (Sup.cells (f i)) j]) (AV.fn (Fn.func (151 : FuncId)) [] [AV.ipt (1 : Nat) fun (x : Nat) => supA n f]) (.dc (true) 101 ([AV.fn (Fn.func (151 : FuncId)) [] [AV.ipt (1) fun (x : Nat) => AV.isl (7) n fun (i j : Nat) => atL (Sup.cells (f i)) j], AV.fn (Fn.func (103 : Nat)) [] []]) (supA n (srtF n f)) (.loop ({ x : Nat // x ≤ n ∧ (fun (x : Nat) => ∀ (i : Nat), i + (1 : Nat) < x → cmpS (srtF n f i) (srtF n f (i + (1 : Nat))) ≠ (0 : Int)) x }) (fun (x : { x : Nat // x ≤ n ∧ (fun (x : Nat) => ∀ (i : Nat), i + (1 : Nat) < x → cmpS (srtF n f i) (srtF n f (i + (1 : Nat))) ≠ (0 : Int)) x }) => mkSt [3, 16, 17] [AV.isl (7) n fun (i j : Nat) => atL (Sup.cells (srtF n f i)) j, Zi (↑n : Int), Zi (↑(x.1) : Int)] []) (fun (x : { x : Nat // x ≤ n ∧ (fun (x : Nat) => ∀ (i : Nat), i + (1 : Nat) < x → cmpS (srtF n f i) (srtF n f (i + (1 : Nat))) ≠ (0 : Int)) x }) => n - x.1) (⟨(0 : Nat), ⟨Nat.zero_le n, fun (i : Nat) (hi : i + (1 : Nat) < (0 : Nat)) => absurd hi (Nat.not_lt_zero (i + (1 : Nat)))⟩⟩) ([3, 16, 17]) ([]) ([AV.isl (7) n fun (i j : Nat) => atL (Sup.cells (srtF n f i)) j, Zi (↑n : Int), Zi 0]) ([]) (fun x5 => (.br (decide ((↑x5.1 : Int) < (↑n : Int))) (.req ((decide ((↑x5.1 : Int) > (0 : Int)) == true) = true → (0 : Int) ≤ IntKind.wrap IntKind.i64 ((↑x5.1 : Int) - (1 : Int)) ∧ IntKind.wrap IntKind.i64 ((↑x5.1 : Int) - (1 : Int)) < (↑n : Int)) (.req ((decide ((↑x5.1 : Int) > (0 : Int)) == true) = true → (0 : Int) ≤ (↑x5.1 : Int) ∧ (↑x5.1 : Int) < (↑n : Int)) (.sc (decide ((↑x5.1 : Int) > (0 : Int)) == true) 103 ([AV.agg (Sup.cells (srtF n f (Int.toNat (IntKind.wrap IntKind.i64 ((↑(x5.1) : Int) - (1 : Int)))))), AV.agg (Sup.cells (srtF n f (Int.toNat (↑(x5.1) : Int))))]) (Zi (cmpS (srtF n f (Int.toNat (IntKind.wrap IntKind.i64 ((↑(x5.1) : Int) - (1 : Int))))) (srtF n f (Int.toNat (↑(x5.1) : Int))))) (.br (decide ((↑x5.1 : Int) > (0 : Int)) && cmpS (srtF n f (Int.toNat (IntKind.wrap IntKind.i64 ((↑x5.1 : Int) - (1 : Int))))) (srtF n f (Int.toNat (↑x5.1 : Int))) == (0 : Int)) (.out (AV.bool false) [] (AV.bool (listB n f)) []) (.again (Again (0) (fun (x : { x : Nat // x ≤ n ∧ (fun (x : Nat) => ∀ (i : Nat), i + (1 : Nat) < x → cmpS (srtF n f i) (srtF n f (i + (1 : Nat))) ≠ (0 : Int)) x }) => mkSt [3, 16, 17] [AV.isl (7) n fun (i j : Nat) => atL (Sup.cells (srtF n f i)) j, Zi (↑n : Int), Zi (↑(x.1) : Int)] []) (fun (x : { x : Nat // x ≤ n ∧ (fun (x : Nat) => ∀ (i : Nat), i + (1 : Nat) < x → cmpS (srtF n f i) (srtF n f (i + (1 : Nat))) ≠ (0 : Int)) x }) => n - x.1) x5) ([3, 16, 17]) ([]) ([AV.isl (7) n fun (i j : Nat) => atL (Sup.cells (srtF n f i)) j, Zi (↑n : Int), Zi (IntKind.wrap IntKind.i64 ((↑x5.1 : Int) + (1 : Int)))]) ([])))))) (.out (AV.bool true) [] (AV.bool (listB n f)) []))))))))
    (by kernel_rfl) ?_
  refine k_scg (fun h0 => c1) ?_
  refine k_br (fun h1 => ?_) (fun h1 => ?_)
  · have g1 := (cnd_or_t cnd_dec_t cnd_id_t) h1
    exact k_out (Ent.of_eq (congrArg AV.bool (list_bad g1).symm))
  · have g1 := (cnd_or_f cnd_dec_f cnd_id_f) h1
    refine k_dc (c2) ?_
    refine k_dc (c3) ?_
    refine k_loop (fun _ hs => hs.le (by repeat' (first | exact trivial | (first | exact Ent.refl _ | exact inc_ent (by omega) | exact Ent.nil rfl | exact Ent.of_eq (congrArg (AV.osl _ _ _) (by first | omega | (dsimp only; omega))) | exact Ent.of_eq (congrArg (AV.int _) (by first | omega | (dsimp only; omega)))) | refine And.intro ?_ ?_)) (trivial)) (fun x5 => ?_)
    try (have q5 := x5.2; dsimp only at q5)
    have e1 := wI (n := (x5.1 : Int) - 1) (by omega) (by omega)
    refine k_br (fun h6 => ?_) (fun h6 => ?_)
    · have g6 := cnd_dec_t h6
      refine k_req (fun hr => by have hr := (cnd_eqt_t cnd_dec_t) hr; first | omega | (simp only [Int.toNat_natCast] at *; omega)) ?_
      refine k_req (fun hr => by have hr := (cnd_eqt_t cnd_dec_t) hr; first | omega | (simp only [Int.toNat_natCast] at *; omega)) ?_
      refine k_scg (fun h9 => compare_c (srtF n f (Int.toNat (IntKind.wrap IntKind.i64 ((↑(x5.1) : Int) - (1 : Int))))) (srtF n f (Int.toNat (↑(x5.1) : Int)))) ?_
      refine k_br (fun h10 => ?_) (fun h10 => ?_)
      · have g10 := (cnd_and_t cnd_dec_t cnd_beq_t) h10
        try simp only [Int.toNat_natCast] at g10
        exact k_out (Ent.of_eq (congrArg AV.bool (list_srt_no (i := x5.1 - 1) (by omega) (by have g := g10.2; rw [e1, show ((x5.1 : Int) - 1).toNat = x5.1 - 1 by omega] at g; rw [show x5.1 - 1 + 1 = x5.1 by omega]; exact g)).symm))
      · have g10 := (cnd_and_f cnd_dec_f cnd_beq_f) h10
        try simp only [Int.toNat_natCast] at g10
        exact k_again (⟨x5.1 + 1, by omega, fun i hi => by rcases Nat.lt_succ_iff_lt_or_eq.1 hi with h | h; (· exact q5.2 i h); (· intro e; rcases g10 with g | g; (· omega); (· rw [e1, show ((x5.1 : Int) - 1).toNat = i by omega] at g; rw [h] at e; exact g e))⟩) (fun _ hs => hs.le (by repeat' (first | exact trivial | (first | exact Ent.refl _ | exact inc_ent (by omega) | exact Ent.nil rfl | exact Ent.of_eq (congrArg (AV.osl _ _ _) (by first | omega | (dsimp only; omega))) | exact Ent.of_eq (congrArg (AV.int _) (by first | omega | (dsimp only; omega)))) | refine And.intro ?_ ?_)) (trivial)) (by first | omega | (dsimp only; omega) | (simp; omega))
    · have g6 := cnd_dec_f h6
      exact k_out (Ent.of_eq (congrArg AV.bool (list_srt (by omega) (fun i hi => by simpa using anyI_f g1.2 i hi) (fun i hi => q5.2 i (by omega))).symm))


theorem outg_c (s : Sup) : Pure Tryz.prog gl0 27 [.agg s.cells] (.tup [.int .i64 (outV s), .int .i64 (outE s)]) := by
  refine pure_sk (own := ow0) Tryz.func27 (by kernel_rfl) mixed (by kernel_rfl)
    (.sc (true) 63 ([AV.agg (Sup.cells s)]) (Zi (leftS s)) (.sc (true) 64 ([AV.agg (Sup.cells s)]) (AV.bool (validS s)) (.br (!validS s) (.out (AV.tup [Zi 0, Zi 1]) [] (AV.tup [Zi (outV s), Zi (outE s)]) []) (.br (decide (leftS s < (0 : Int))) (.out (AV.tup [Zi 0, Zi 17]) [] (AV.tup [Zi (outV s), Zi (outE s)]) []) (.out (AV.tup [Zi (leftS s), Zi 0]) [] (AV.tup [Zi (outV s), Zi (outE s)]) [])))))
    (by kernel_rfl) ?_
  refine k_sc (outst_c (s)) ?_
  refine k_sc (valid_c (s)) ?_
  refine k_br (fun h2 => ?_) (fun h2 => ?_)
  · have g2 := (cnd_not_t cnd_id_f) h2
    exact k_out (Ent.of_eq (by first | rw [outV_1 g2, outE_1 g2] | rw [outV_2 g2 g4, outE_2 g2 g4] | rw [outV_3 g2 g4, outE_3 g2 g4]))
  · have g2 := (cnd_not_f cnd_id_t) h2
    refine k_br (fun h4 => ?_) (fun h4 => ?_)
    · have g4 := cnd_dec_t h4
      exact k_out (Ent.of_eq (by first | rw [outV_1 g2, outE_1 g2] | rw [outV_2 g2 g4, outE_2 g2 g4] | rw [outV_3 g2 g4, outE_3 g2 g4]))
    · have g4 := cnd_dec_f h4
      exact k_out (Ent.of_eq (by first | rw [outV_1 g2, outE_1 g2] | rw [outV_2 g2 g4, outE_2 g2 g4] | rw [outV_3 g2 g4, outE_3 g2 g4]))
theorem sum_c (n : Nat) (f : Nat → Sup) (hn : n ≤ 100000) : Pure Tryz.prog gl0 26 [supA n f] (.tup [.int .i64 (smV n f), .int .i64 (smE n f)]) := by
  have c1 := proper_c n f hn
  refine pure_sk (own := ow0) Tryz.func26 (by kernel_rfl) mixed (by kernel_rfl)
    (.sc (true) 62 ([AV.isl (7) n fun (i j : Nat) => atL (Sup.cells (f i)) j]) (AV.bool (listB n f)) (.br (!listB n f) (.out (AV.tup [Zi 0, Zi 1]) [] (AV.tup [Zi (smV n f), Zi (smE n f)]) []) (.loop ({ x : Nat // x ≤ n ∧ (fun (x : Nat) => ∀ (i : Nat), i < x → ¬leftS (f i) < (0 : Int)) x }) (fun (x : { x : Nat // x ≤ n ∧ (fun (x : Nat) => ∀ (i : Nat), i < x → ¬leftS (f i) < (0 : Int)) x }) => mkSt [12, 13, 4, 14] [AV.isl (7) n fun (i j : Nat) => atL (Sup.cells (f i)) j, Zi (↑n : Int), Zi (sumN f (x.1)), Zi (↑(x.1) : Int)] []) (fun (x : { x : Nat // x ≤ n ∧ (fun (x : Nat) => ∀ (i : Nat), i < x → ¬leftS (f i) < (0 : Int)) x }) => n - x.1) (⟨(0 : Nat), ⟨Nat.zero_le n, fun (i : Nat) (hi : i < (0 : Nat)) => absurd hi (Nat.not_lt_zero i)⟩⟩) ([12, 13, 4, 14]) ([]) ([AV.isl (7) n fun (i j : Nat) => atL (Sup.cells (f i)) j, Zi (↑n : Int), Zi 0, Zi 0]) ([]) (fun x3 => (.br (decide ((↑x3.1 : Int) < (↑n : Int))) (.req ((0 : Int) ≤ (↑x3.1 : Int) ∧ (↑x3.1 : Int) < (↑n : Int)) (.sc (true) 27 ([AV.agg (Sup.cells (f (Int.toNat (↑(x3.1) : Int))))]) (AV.tup [Zi (outV (f (Int.toNat (↑(x3.1) : Int)))), Zi (outE (f (Int.toNat (↑(x3.1) : Int))))]) (.br (outE (f (Int.toNat (↑x3.1 : Int))) != (0 : Int)) (.out (AV.tup [Zi 0, Zi (outE (f (Int.toNat (↑x3.1 : Int))))]) [] (AV.tup [Zi (smV n f), Zi (smE n f)]) []) (.again (Again (0) (fun (x : { x : Nat // x ≤ n ∧ (fun (x : Nat) => ∀ (i : Nat), i < x → ¬leftS (f i) < (0 : Int)) x }) => mkSt [12, 13, 4, 14] [AV.isl (7) n fun (i j : Nat) => atL (Sup.cells (f i)) j, Zi (↑n : Int), Zi (sumN f (x.1)), Zi (↑(x.1) : Int)] []) (fun (x : { x : Nat // x ≤ n ∧ (fun (x : Nat) => ∀ (i : Nat), i < x → ¬leftS (f i) < (0 : Int)) x }) => n - x.1) x3) ([12, 13, 4, 14]) ([]) ([AV.isl (7) n fun (i j : Nat) => atL (Sup.cells (f i)) j, Zi (↑n : Int), Zi (IntKind.wrap IntKind.i64 (sumN f x3.1 + outV (f (Int.toNat (↑x3.1 : Int))))), Zi (IntKind.wrap IntKind.i64 ((↑x3.1 : Int) + (1 : Int)))]) ([]))))) (.out (AV.tup [Zi (sumN f x3.1), Zi 0]) [] (AV.tup [Zi (smV n f), Zi (smE n f)]) []))))))
    (by kernel_rfl) ?_
  refine k_sc (c1) ?_
  refine k_br (fun h1 => ?_) (fun h1 => ?_)
  · have g1 := (cnd_not_t cnd_id_f) h1
    exact k_out (Ent.of_eq (by rw [(sm_1 g1).1, (sm_1 g1).2]))
  · have g1 := (cnd_not_f cnd_id_t) h1
    refine k_loop (fun _ hs => hs.le (by repeat' (first | exact trivial | (first | exact Ent.refl _ | exact inc_ent (by omega) | exact Ent.nil rfl | exact Ent.of_eq (congrArg (AV.osl _ _ _) (by first | omega | (dsimp only; omega))) | exact Ent.of_eq (congrArg (AV.int _) (by first | omega | (dsimp only; omega)))) | refine And.intro ?_ ?_)) (trivial)) (fun x3 => ?_)
    try (have q3 := x3.2; dsimp only at q3)
    refine k_br (fun h4 => ?_) (fun h4 => ?_)
    · have g4 := cnd_dec_t h4
      refine k_req (by first | omega | (simp only [Int.toNat_natCast]; omega)) ?_
      refine k_sc (outg_c (f (Int.toNat (↑(x3.1) : Int)))) ?_
      refine k_br (fun h7 => ?_) (fun h7 => ?_)
      · have g7 := cnd_bne_t h7
        try simp only [Int.toNat_natCast] at g7
        exact k_out (Ent.of_eq (by obtain ⟨k1, k2⟩ := outE_ne (list_val g1 (i := x3.1) (by omega)) g7; simp only [Int.toNat_natCast]; rw [(sm_2 g1 (i := x3.1) (by omega) k1).1, (sm_2 g1 (i := x3.1) (by omega) k1).2, k2]))
      · have g7 := cnd_bne_f h7
        try simp only [Int.toNat_natCast] at g7
        exact k_again (⟨x3.1 + 1, by omega, snoc_all x3.2.2 (outE_eq (list_val g1 (i := x3.1) (by omega)) g7).1⟩) (fun _ hs => hs.le (⟨Ent.refl _, Ent.refl _, Ent.of_eq (congrArg (AV.int _) (by simp only [Int.toNat_natCast]; rw [(outE_eq (list_val g1 (i := x3.1) (by omega)) g7).2]; rfl)), inc_ent (by omega), trivial⟩) (trivial)) (by first | omega | (dsimp only; omega) | (simp; omega))
    · have g4 := cnd_dec_f h4
      exact k_out (Ent.of_eq (by rw [(sm_3 g1 (fun i hi => x3.2.2 i (by omega))).1, (sm_3 g1 (fun i hi => x3.2.2 i (by omega))).2, show x3.1 = n by have := x3.2.1; omega]))
theorem rsum_c (n : Nat) (f : Nat → Sup) (hn : n ≤ 100000) : Pure Tryz.prog gl0 29 [supA n f] (.tup [.int .i64 (smV n f), .int .i64 (smE n f)]) := by
  have c1 := rlist_c n f (by omega)
  refine pure_sk (own := ow0) Tryz.func29 (by kernel_rfl) mixed (by kernel_rfl)
    (.sc (true) 66 ([AV.isl (7) n fun (i j : Nat) => atL (Sup.cells (f i)) j]) (AV.bool (listB n f)) (.br (!listB n f) (.out (AV.tup [Zi 0, Zi 1]) [] (AV.tup [Zi (smV n f), Zi (smE n f)]) []) (.loop ({ x : Nat // x ≤ n ∧ (fun (x : Nat) => ∀ (i : Nat), i < x → ¬leftS (f i) < (0 : Int)) x }) (fun (x : { x : Nat // x ≤ n ∧ (fun (x : Nat) => ∀ (i : Nat), i < x → ¬leftS (f i) < (0 : Int)) x }) => mkSt [0, 4, 5] [AV.isl (7) n fun (i j : Nat) => atL (Sup.cells (f i)) j, Zi (sumN f (x.1)), Zi (↑(x.1) : Int)] []) (fun (x : { x : Nat // x ≤ n ∧ (fun (x : Nat) => ∀ (i : Nat), i < x → ¬leftS (f i) < (0 : Int)) x }) => n - x.1) (⟨(0 : Nat), ⟨Nat.zero_le n, fun (i : Nat) (hi : i < (0 : Nat)) => absurd hi (Nat.not_lt_zero i)⟩⟩) ([0, 4, 5]) ([]) ([AV.isl (7) n fun (i j : Nat) => atL (Sup.cells (f i)) j, Zi 0, Zi 0]) ([]) (fun x3 => (.br (decide ((↑x3.1 : Int) < (↑n : Int))) (.req ((0 : Int) ≤ (↑x3.1 : Int) ∧ (↑x3.1 : Int) < (↑n : Int)) (.sc (true) 31 ([AV.agg (Sup.cells (f (Int.toNat (↑(x3.1) : Int))))]) (Zi (leftS (f (Int.toNat (↑(x3.1) : Int))))) (.br (decide (leftS (f (Int.toNat (↑x3.1 : Int))) < (0 : Int))) (.out (AV.tup [Zi 0, Zi 17]) [] (AV.tup [Zi (smV n f), Zi (smE n f)]) []) (.req ((0 : Int) ≤ (↑x3.1 : Int) ∧ (↑x3.1 : Int) < (↑n : Int)) (.sc (true) 31 ([AV.agg (Sup.cells (f (Int.toNat (↑(x3.1) : Int))))]) (Zi (leftS (f (Int.toNat (↑(x3.1) : Int))))) (.again (Again (0) (fun (x : { x : Nat // x ≤ n ∧ (fun (x : Nat) => ∀ (i : Nat), i < x → ¬leftS (f i) < (0 : Int)) x }) => mkSt [0, 4, 5] [AV.isl (7) n fun (i j : Nat) => atL (Sup.cells (f i)) j, Zi (sumN f (x.1)), Zi (↑(x.1) : Int)] []) (fun (x : { x : Nat // x ≤ n ∧ (fun (x : Nat) => ∀ (i : Nat), i < x → ¬leftS (f i) < (0 : Int)) x }) => n - x.1) x3) ([0, 4, 5]) ([]) ([AV.isl (7) n fun (i j : Nat) => atL (Sup.cells (f i)) j, Zi (IntKind.wrap IntKind.i64 (sumN f x3.1 + leftS (f (Int.toNat (↑x3.1 : Int))))), Zi (IntKind.wrap IntKind.i64 ((↑x3.1 : Int) + (1 : Int)))]) ([]))))))) (.out (AV.tup [Zi (sumN f x3.1), Zi 0]) [] (AV.tup [Zi (smV n f), Zi (smE n f)]) []))))))
    (by kernel_rfl) ?_
  refine k_sc (c1) ?_
  refine k_br (fun h1 => ?_) (fun h1 => ?_)
  · have g1 := (cnd_not_t cnd_id_f) h1
    exact k_out (Ent.of_eq (by rw [(sm_1 g1).1, (sm_1 g1).2]))
  · have g1 := (cnd_not_f cnd_id_t) h1
    refine k_loop (fun _ hs => hs.le (by repeat' (first | exact trivial | (first | exact Ent.refl _ | exact inc_ent (by omega) | exact Ent.nil rfl | exact Ent.of_eq (congrArg (AV.osl _ _ _) (by first | omega | (dsimp only; omega))) | exact Ent.of_eq (congrArg (AV.int _) (by first | omega | (dsimp only; omega)))) | refine And.intro ?_ ?_)) (trivial)) (fun x3 => ?_)
    try (have q3 := x3.2; dsimp only at q3)
    refine k_br (fun h4 => ?_) (fun h4 => ?_)
    · have g4 := cnd_dec_t h4
      refine k_req (by first | omega | (simp only [Int.toNat_natCast]; omega)) ?_
      refine k_sc (left_c (f (Int.toNat (↑(x3.1) : Int)))) ?_
      refine k_br (fun h7 => ?_) (fun h7 => ?_)
      · have g7 := cnd_dec_t h7
        try simp only [Int.toNat_natCast] at g7
        exact k_out (Ent.of_eq (by rw [(sm_2 g1 (i := x3.1) (by omega) g7).1, (sm_2 g1 (i := x3.1) (by omega) g7).2]))
      · have g7 := cnd_dec_f h7
        try simp only [Int.toNat_natCast] at g7
        refine k_req (by first | omega | (simp only [Int.toNat_natCast]; omega)) ?_
        refine k_sc (left_c (f (Int.toNat (↑(x3.1) : Int)))) ?_
        exact k_again (⟨x3.1 + 1, by omega, snoc_all x3.2.2 g7⟩) (fun _ hs => hs.le (by repeat' (first | exact trivial | (first | exact Ent.refl _ | exact inc_ent (by omega) | exact Ent.nil rfl | exact Ent.of_eq (congrArg (AV.osl _ _ _) (by first | omega | (dsimp only; omega))) | exact Ent.of_eq (congrArg (AV.int _) (by first | omega | (dsimp only; omega)))) | refine And.intro ?_ ?_)) (trivial)) (by first | omega | (dsimp only; omega) | (simp; omega))
    · have g4 := cnd_dec_f h4
      exact k_out (Ent.of_eq (by rw [(sm_3 g1 (fun i hi => x3.2.2 i (by omega))).1, (sm_3 g1 (fun i hi => x3.2.2 i (by omega))).2, show x3.1 = n by have := x3.2.1; omega]))


end Go.Proofs.YtbmdmoknnlhdoaaGreatDoor.U

namespace Go.Proofs.YtbmdmoknnlhdoaaGreatDoor.O
open Go Go.Am Go.Sp Go.Lib Go.RowKit Go.Shelf
set_option maxRecDepth 100000

theorem pure_mono {P : Program} {gl gl' : Globs} {f : FuncId} {args : List AV} {r : AV} (h : Am.Pure P gl f args r) (hs : ∀ g m x, gl g = some (m, x) → gl' g = some (m, x)) : Am.Pure P gl' f args r :=
  ⟨h.1, fun β w vs hF hG hg ha => h.2 β w vs hF hG (fun g m x e => hg g m x (hs g m x e)) ha⟩
theorem sum_l (m : GP) (n : Nat) (f : Nat → Sup) (hn : n ≤ 100000) : Pure Tryz.prog (gl0 m) 26 [supA n f] (.tup [.int .i64 (smV n f), .int .i64 (smE n f)]) := pure_mono (U.sum_c n f hn) (fun _ _ _ h => by cases h)
theorem rsum_l (m : GP) (n : Nat) (f : Nat → Sup) (hn : n ≤ 100000) : Pure Tryz.prog (gl0 m) 29 [supA n f] (.tup [.int .i64 (smV n f), .int .i64 (smE n f)]) := pure_mono (U.rsum_c n f hn) (fun _ _ _ h => by cases h)
theorem outg_l (m : GP) (s : Sup) : Pure Tryz.prog (gl0 m) 27 [.agg s.cells] (.tup [.int .i64 (outV s), .int .i64 (outE s)]) := pure_mono (U.outg_c s) (fun _ _ _ h => by cases h)
theorem left_l (m : GP) (s : Sup) : Pure Tryz.prog (gl0 m) 31 [.agg s.cells] (.int .i64 (leftS s)) := pure_mono (U.left_c s) (fun _ _ _ h => by cases h)

def litP (l : List Part) : AV := .isl 1 l.length fun r k => atL (List.getD (l.map fun p => [p.a]) r []) k
theorem litP_e {os : List (Option Ob)} (l : List Part) : Ent os (litP l) (.isl 1 l.length fun i _ => (l.getD i default).a) := Ent.isl fun i j hi hj => by
  obtain rfl : j = 0 := by omega
  show atL (List.getD (l.map fun p => [p.a]) i []) 0 = (l.getD i default).a
  rw [List.getD_eq_getElem?_getD, List.getElem?_map, List.getElem?_eq_getElem hi, List.getD_eq_getElem?_getD, List.getElem?_eq_getElem hi]; rfl
theorem lineP (m : GP) (l : List Part) (hok : ∀ p ∈ l, p.ok) (hl : l.length ≤ 1000) (hz : l ≠ []) : Pure Tryz.prog (gl0 m) 28 [litP l] (.str (bs (flatP l l.length ++ [10]))) :=
  (line_c m l hok hl hz).via (args := [litP l]) ⟨litP_e l, trivial⟩
def supP (s : Sup) (n : Int) : List Part := [.s [98, 97, 110, 107, 32], .n s.bank, .s [32, 101, 112, 111, 99, 104, 32], .n s.epoch, .s [32, 100, 101, 110, 111, 109, 105, 110, 97, 116, 105, 111, 110, 32], .n s.denom, .s [58, 32, 105, 115, 115, 117, 101, 100, 32], .n s.issued, .s [44, 32, 114, 101, 116, 117, 114, 110, 101, 100, 32], .n s.ret, .s [44, 32, 100, 111, 117, 98, 108, 101, 32], .n s.dbl, .s [44, 32, 101, 120, 112, 105, 114, 101, 100, 32], .n s.exp, .s [44, 32, 111, 117, 116, 115, 116, 97, 110, 100, 105, 110, 103, 32], .n n]
def totP (n : Int) : List Part := [.s [116, 111, 116, 97, 108, 32], .n n]
def supLn (s : Sup) (n : Int) : Str := flatP (supP s n) 16 ++ [10]
def totLn (n : Int) : Str := flatP (totP n) 2 ++ [10]
theorem supP_ok {s : Sup} {n : Int} (h : s.R) (hn : I64 n) : ∀ p ∈ supP s n, p.ok := by
  obtain ⟨h1, h2, h3, h4, h5, h6, h7⟩ := h
  intro p hp
  simp only [supP, List.mem_cons, List.not_mem_nil, or_false] at hp
  rcases hp with rfl | rfl | rfl | rfl | rfl | rfl | rfl | rfl | rfl | rfl | rfl | rfl | rfl | rfl | rfl | rfl
  all_goals first | exact h1 | exact h2 | exact h3 | exact h4 | exact h5 | exact h6 | exact h7 | exact hn | exact Nat.le_of_ble_eq_true rfl
theorem totP_ok {n : Int} (hn : I64 n) : ∀ p ∈ totP n, p.ok := by
  intro p hp
  simp only [totP, List.mem_cons, List.not_mem_nil, or_false] at hp
  rcases hp with rfl | rfl
  · exact Nat.le_of_ble_eq_true rfl
  · exact hn
theorem lineS (m : GP) (s : Sup) (n : Int) (h : s.R) (hn : I64 n) : Pure Tryz.prog (gl0 m) 28 [litP (supP s n)] (.str (bs (supLn s n))) := lineP m (supP s n) (supP_ok h hn) (by show 16 ≤ 1000; decide) (by unfold supP; simp)
theorem lineT (m : GP) (n : Int) (hn : I64 n) : Pure Tryz.prog (gl0 m) 28 [litP (totP n)] (.str (bs (totLn n))) := lineP m (totP n) (totP_ok hn) (by show 2 ≤ 1000; decide) (by unfold totP; simp)
def repF (f : Nat → Sup) : Nat → Str
  | 0 => []
  | k + 1 => repF f k ++ supLn (f k) (leftS (f k))
theorem wrap_R (n : Int) : I64 (IntKind.wrap .i64 n) := by
  unfold I64; simp only [IntKind.wrap, IntKind.bits, IntKind.signed]; simp; omega
theorem valid_R {s : Sup} (h : validS s = true) : s.R := by
  simp only [validS, amtB, Bool.and_eq_true, decide_eq_true_eq] at h
  unfold Sup.R I64; omega
theorem sumN_R (f : Nat → Sup) : ∀ n, I64 (sumN f n)
  | 0 => (by unfold I64; decide : I64 0)
  | n + 1 => wrap_R _
theorem smV_R (n : Nat) (f : Nat → Sup) : I64 (smV n f) := by
  unfold smV
  split
  · unfold I64; decide
  · exact sumN_R f n
theorem outV_R (s : Sup) : I64 (outV s) := by
  unfold outV
  split
  · unfold I64; decide
  · split
    · unfold I64; decide
    · exact wrap_R _
theorem supLn_le {s : Sup} {n : Int} (h : s.R) (hn : I64 n) : (supLn s n).length ≤ 1600001 := by
  have := flat_le (supP_ok h hn) 16 (Nat.le_refl _)
  unfold supLn; rw [List.length_append]; simp; omega
theorem totLn_le {n : Int} (hn : I64 n) : (totLn n).length ≤ 200001 := by
  have := flat_le (totP_ok hn) 2 (Nat.le_refl _)
  unfold totLn; rw [List.length_append]; simp; omega
theorem rep_le {f : Nat → Sup} {n : Nat} (h : ∀ i, i < n → (f i).R) : ∀ k, k ≤ n → (repF f k).length ≤ k * 1600001
  | 0, _ => Nat.le_refl _
  | k + 1, hk => by
    have h1 := rep_le h k (by omega)
    have h2 := supLn_le (h k (by omega)) (wrap_R (IntKind.wrap .i64 (IntKind.wrap .i64 ((f k).issued - (f k).ret) + (f k).dbl) - (f k).exp))
    have h2 : (supLn (f k) (leftS (f k))).length ≤ 1600001 := h2
    rw [repF, List.length_append]; omega
theorem rep_w (m : GP) (n : Nat) (f : Nat → Sup) (hn : n ≤ 100000) (h : smE n f = 0) : Pure Tryz.prog (gl0 m) 10 [supA n f] (.tup [.str (bs (repF f n ++ totLn (smV n f))), .int .i64 0]) := by
  have c1 := sum_l m n f hn
  rw [h] at c1
  obtain ⟨hl, hg⟩ := sm_eq h
  have hn1 := (list_spec hl).1
  have c2 := fun (i : Nat) (hi : i < n) => outg_l m (f i)
  have c3 := fun (i : Nat) (hi : i < n) => lineS m (f i) (outV (f i)) (valid_R (list_val hl hi)) (outV_R _)
  have c4 := lineT m (smV n f) (smV_R n f)
  refine pure_sk (own := ow0) Tryz.func10 (by kernel_rfl) mixed (by kernel_rfl)
    (.sc (true) 26 ([AV.isl (7) n fun (i j : Nat) => atL (Sup.cells (f i)) j]) (AV.tup [Zi (smV n f), Zi 0]) (.ff (.loop ({ x : Nat // x ≤ n }) (fun (x : { x : Nat // x ≤ n }) => mkSt [4, 19, 20, 6, 21] [Zi (smV n f), AV.isl (7) n fun (i j : Nat) => atL (Sup.cells (f i)) j, Zi (↑n : Int), AV.str (bs (repF f (x.1))), Zi (↑(x.1) : Int)] []) (fun (x : { x : Nat // x ≤ n }) => n - x.1) (⟨(0 : Nat), Nat.zero_le n⟩) ([4, 19, 20, 6, 21]) ([]) ([Zi (smV n f), AV.isl (7) n fun (i j : Nat) => atL (Sup.cells (f i)) j, Zi (↑n : Int), AV.str { data := #[] }, Zi 0]) ([]) (fun x2 => (.br (decide ((↑x2.1 : Int) < (↑n : Int))) (.req ((0 : Int) ≤ (↑x2.1 : Int) ∧ (↑x2.1 : Int) < (↑n : Int)) (.sc (true) 27 ([AV.agg (Sup.cells (f (Int.toNat (↑(x2.1) : Int))))]) (AV.tup [Zi (outV (f (Int.toNat (↑(x2.1) : Int)))), Zi (outE (f (Int.toNat (↑(x2.1) : Int))))]) (.br (outE (f (Int.toNat (↑x2.1 : Int))) != (0 : Int)) (.out (AV.tup [AV.str { data := #[] }, Zi (outE (f (Int.toNat (↑x2.1 : Int))))]) [] (AV.tup [AV.str (bs (repF f n ++ totLn (smV n f))), Zi 0]) []) (.sc (true) 28 ([AV.isl (1) (16) fun (r k : Nat) => atL (List.getD [[AV.ifc (9) (AV.str { data := #[(98 : UInt8), (97 : UInt8), (110 : UInt8), (107 : UInt8), (32 : UInt8)] })], [AV.ifc (3) (Zi (f (Int.toNat (↑(x2.1) : Int))).1)], [AV.ifc (9) (AV.str { data := #[(32 : UInt8), (101 : UInt8), (112 : UInt8), (111 : UInt8), (99 : UInt8), (104 : UInt8), (32 : UInt8)] })], [AV.ifc (3) (Zi (f (Int.toNat (↑(x2.1) : Int))).2)], [AV.ifc (9) (AV.str { data := #[(32 : UInt8), (100 : UInt8), (101 : UInt8), (110 : UInt8), (111 : UInt8), (109 : UInt8), (105 : UInt8), (110 : UInt8), (97 : UInt8), (116 : UInt8), (105 : UInt8), (111 : UInt8), (110 : UInt8), (32 : UInt8)] })], [AV.ifc (3) (Zi (f (Int.toNat (↑(x2.1) : Int))).3)], [AV.ifc (9) (AV.str { data := #[(58 : UInt8), (32 : UInt8), (105 : UInt8), (115 : UInt8), (115 : UInt8), (117 : UInt8), (101 : UInt8), (100 : UInt8), (32 : UInt8)] })], [AV.ifc (3) (Zi (f (Int.toNat (↑(x2.1) : Int))).4)], [AV.ifc (9) (AV.str { data := #[(44 : UInt8), (32 : UInt8), (114 : UInt8), (101 : UInt8), (116 : UInt8), (117 : UInt8), (114 : UInt8), (110 : UInt8), (101 : UInt8), (100 : UInt8), (32 : UInt8)] })], [AV.ifc (3) (Zi (f (Int.toNat (↑(x2.1) : Int))).5)], [AV.ifc (9) (AV.str { data := #[(44 : UInt8), (32 : UInt8), (100 : UInt8), (111 : UInt8), (117 : UInt8), (98 : UInt8), (108 : UInt8), (101 : UInt8), (32 : UInt8)] })], [AV.ifc (3) (Zi (f (Int.toNat (↑(x2.1) : Int))).6)], [AV.ifc (9) (AV.str { data := #[(44 : UInt8), (32 : UInt8), (101 : UInt8), (120 : UInt8), (112 : UInt8), (105 : UInt8), (114 : UInt8), (101 : UInt8), (100 : UInt8), (32 : UInt8)] })], [AV.ifc (3) (Zi (f (Int.toNat (↑(x2.1) : Int))).7)], [AV.ifc (9) (AV.str { data := #[(44 : UInt8), (32 : UInt8), (111 : UInt8), (117 : UInt8), (116 : UInt8), (115 : UInt8), (116 : UInt8), (97 : UInt8), (110 : UInt8), (100 : UInt8), (105 : UInt8), (110 : UInt8), (103 : UInt8), (32 : UInt8)] })], [AV.ifc (3) (Zi (outV (f (Int.toNat (↑x2.1 : Int)))))]] (r + 0) []) k]) (AV.str (bs (supLn (f (Int.toNat (↑(x2.1) : Int))) (outV (f (Int.toNat (↑(x2.1) : Int))))))) (.req (ByteArray.size (bs (repF f x2.1)) + ByteArray.size (bs (supLn (f (Int.toNat (↑x2.1 : Int))) (outV (f (Int.toNat (↑x2.1 : Int)))))) ≤ 9223372036854775807) (.again (Again (0) (fun (x : { x : Nat // x ≤ n }) => mkSt [4, 19, 20, 6, 21] [Zi (smV n f), AV.isl (7) n fun (i j : Nat) => atL (Sup.cells (f i)) j, Zi (↑n : Int), AV.str (bs (repF f (x.1))), Zi (↑(x.1) : Int)] []) (fun (x : { x : Nat // x ≤ n }) => n - x.1) x2) ([4, 19, 20, 6, 21]) ([]) ([Zi (smV n f), AV.isl (7) n fun (i j : Nat) => atL (Sup.cells (f i)) j, Zi (↑n : Int), AV.str (bs (repF f x2.1) ++ bs (supLn (f (Int.toNat (↑x2.1 : Int))) (outV (f (Int.toNat (↑x2.1 : Int)))))), Zi (IntKind.wrap IntKind.i64 ((↑x2.1 : Int) + (1 : Int)))]) ([]))))))) (.sc (true) 28 ([AV.isl (1) (2) fun (r k : Nat) => atL (List.getD [[AV.ifc (9) (AV.str { data := #[(116 : UInt8), (111 : UInt8), (116 : UInt8), (97 : UInt8), (108 : UInt8), (32 : UInt8)] })], [AV.ifc (3) (Zi (smV n f))]] (r + 0) []) k]) (AV.str (bs (totLn (smV n f)))) (.req (ByteArray.size (bs (repF f x2.1)) + ByteArray.size (bs (totLn (smV n f))) ≤ 9223372036854775807) (.out (AV.tup [AV.str (bs (repF f x2.1) ++ bs (totLn (smV n f))), Zi 0]) [] (AV.tup [AV.str (bs (repF f n ++ totLn (smV n f))), Zi 0]) []))))))))
    (by kernel_rfl) ?_
  refine k_sc (c1) ?_
  refine k_ff ?_
  refine k_loop (fun _ hs => hs.le (by repeat' (first | exact trivial | (first | exact Ent.refl _ | exact inc_ent (by omega) | exact Ent.nil rfl | exact Ent.of_eq (congrArg (AV.osl _ _ _) (by first | omega | (dsimp only; omega))) | exact Ent.of_eq (congrArg (AV.int _) (by first | omega | (dsimp only; omega)))) | refine And.intro ?_ ?_)) (trivial)) (fun x2 => ?_)
  try (have q2 := x2.2; dsimp only at q2)
  have hg2 := fun h => hg x2.1 h; have hr := rep_le (f := f) (fun i hi => valid_R (list_val hl hi)) x2.1 x2.2
  refine k_br (fun h3 => ?_) (fun h3 => ?_)
  · have g3 := cnd_dec_t h3
    refine k_req (by first | omega | (simp only [Int.toNat_natCast]; omega)) ?_
    refine k_sc (c2 (Int.toNat (↑(x2.1) : Int)) (by first | assumption | omega)) ?_
    refine k_br (fun h6 => ?_) (fun h6 => ?_)
    · have g6 := cnd_bne_t h6
      try simp only [Int.toNat_natCast] at g6
      exact k_out (absurd (outE_3 (list_val hl (by omega)) (hg2 (by omega))) g6)
    · have g6 := cnd_bne_f h6
      try simp only [Int.toNat_natCast] at g6
      refine k_sc (c3 (Int.toNat (↑(x2.1) : Int)) (by first | assumption | omega)) ?_
      refine k_req (by rw [bs_size, bs_size]; have h1 := supLn_le (valid_R (list_val hl (i := x2.1) (by omega))) (outV_R (f x2.1)); simp only [Int.toNat_natCast]; omega) ?_
      exact k_again (⟨x2.1 + 1, by omega⟩) (fun _ hs => hs.le (⟨Ent.refl _, Ent.refl _, Ent.refl _, Ent.of_eq (congrArg AV.str (by have e := outV_3 (list_val hl (i := x2.1) (by omega)) (hg2 (by omega)); rw [Int.toNat_natCast, e, bs_app]; rfl)), inc_ent (by omega), trivial⟩) (trivial)) (by first | omega | (dsimp only; omega) | (simp; omega))
  · have g3 := cnd_dec_f h3
    refine k_sc (c4) ?_
    refine k_req (by rw [bs_size, bs_size]; have h1 := totLn_le (smV_R n f); omega) ?_
    exact k_out (Ent.tup ⟨Ent.of_eq (congrArg AV.str (by rw [bs_app, show x2.1 = n by omega])), Ent.refl _, trivial⟩)


theorem rep_e (m : GP) (n : Nat) (f : Nat → Sup) (hn : n ≤ 100000) (h : ¬ smE n f = 0) : Pure Tryz.prog (gl0 m) 10 [supA n f] (.tup [.str (bs []), .int .i64 (smE n f)]) := by
  have c1 := sum_l m n f hn
  refine pure_sk (own := ow0) Tryz.func10 (by kernel_rfl) mixed (by kernel_rfl)
    (.sc (true) 26 ([AV.isl (7) n fun (i j : Nat) => atL (Sup.cells (f i)) j]) (AV.tup [Zi (smV n f), Zi (smE n f)]) (.br (smE n f != (0 : Int)) (.out (AV.tup [AV.str { data := #[] }, Zi (smE n f)]) [] (AV.tup [AV.str (bs []), Zi (smE n f)]) []) .no))
    (by kernel_rfl) ?_
  refine k_sc (c1) ?_
  refine k_br (fun h1 => ?_) (fun h1 => ?_)
  · have g1 := cnd_bne_t h1
    exact k_out (Ent.of_eq (by first | rfl | simp_all))
  · have g1 := cnd_bne_f h1
    exact (show False from (by exfalso; omega))
def repV (n : Nat) (f : Nat → Sup) : Str := if smE n f = 0 then repF f n ++ totLn (smV n f) else []
theorem rep_c (m : GP) (n : Nat) (f : Nat → Sup) (hn : n ≤ 100000) : Pure Tryz.prog (gl0 m) 10 [supA n f] (.tup [.str (bs (repV n f)), .int .i64 (smE n f)]) := by
  by_cases h : smE n f = 0
  · unfold repV; rw [if_pos h, h]; exact rep_w m n f hn h
  · unfold repV; rw [if_neg h]; exact rep_e m n f hn h

end Go.Proofs.YtbmdmoknnlhdoaaGreatDoor.O

namespace Go.Sp
open Go Go.Lib


def totS (n : Int) : Str := [116, 111, 116, 97, 108, 32] ++ itoa n
structure OkS (s : Sup) (n : Int) : Prop where
  h0 : 0 ≤ s.bank
  h1 : 0 ≤ s.epoch
  h2 : 0 ≤ s.denom
  h3 : 0 ≤ s.issued
  h4 : 0 ≤ s.ret
  h5 : 0 ≤ s.dbl
  h6 : 0 ≤ s.exp
  h7 : 0 ≤ n
end Go.Sp

namespace Go.Proofs.YtbmdmoknnlhdoaaGreatDoor.O
open Go Go.Am Go.Sp Go.Lib Go.RowKit Go.Shelf
set_option maxRecDepth 100000

def owQ : FuncId → Option (List Bool) := fun f => bif Nat.beq f 999999999 then some (List.replicate 5 true) else none
def row1 : List AV := [.int .i64 8, .int .i64 0, .int .i64 0, .int .i64 5, .bool false, .int .i64 0, .int .i64 5, .nsl]
def row2 : List AV := [.int .i64 4, .int .i64 2, .int .i64 0, .int .i64 0, .bool false, .int .i64 7, .int .i64 0, .nsl]
def litT : AV := .isl 8 2 fun r k => atL (List.getD [row1, row2] r []) k
def p1 : List Part := [.s [116, 105, 99, 107], .s [32], .n 0, .s [32], .n 0, .s [32], .n 5, .s [58, 32], .s [53]]
def p2 : List Part := [.s [100, 101, 112, 111, 115, 105, 116], .s [32], .n 2, .s [32], .n 0, .s [32], .n 0, .s [58, 32], .s [101, 114, 114, 111, 114, 32, 55]]
theorem p1_ok : ∀ p ∈ p1, p.ok := by
  intro p hp
  simp only [p1, List.mem_cons, List.not_mem_nil, or_false] at hp
  rcases hp with rfl | rfl | rfl | rfl | rfl | rfl | rfl | rfl | rfl
  all_goals first | exact Nat.le_of_ble_eq_true rfl | exact ⟨by decide, by decide⟩
theorem p2_ok : ∀ p ∈ p2, p.ok := by
  intro p hp
  simp only [p2, List.mem_cons, List.not_mem_nil, or_false] at hp
  rcases hp with rfl | rfl | rfl | rfl | rfl | rfl | rfl | rfl | rfl
  all_goals first | exact Nat.le_of_ble_eq_true rfl | exact ⟨by decide, by decide⟩
def q1 : Str := [116, 105, 99, 107, 32, 48, 32, 48, 32, 53, 58, 32, 53, 10]
def q2 : Str := [100, 101, 112, 111, 115, 105, 116, 32, 50, 32, 48, 32, 48, 58, 32, 101, 114, 114, 111, 114, 32, 55, 10]
theorem q1_eq : flatP p1 p1.length ++ [10] = q1 := by
  simp [flatP, p1, Part.t, itoa, decDigits, q1]
theorem q2_eq : flatP p2 p2.length ++ [10] = q2 := by
  simp [flatP, p2, Part.t, itoa, decDigits, q2]
theorem i5 : itoa 5 = [53] := by simp [itoa, decDigits]
theorem i7 : itoa 7 = [55] := by simp [itoa, decDigits]
theorem i0 : itoa 0 = [48] := by simp [itoa, decDigits]
theorem steps_w (m : GP) : Pure Tryz.prog (gl0 m) 14 [litT] (.tup [.str (bs (q1 ++ q2)), .int .i64 0]) := by
  have k1 := (itoa_c m 5 (by decide))
  have k2 := (itoa_c m 7 (by decide))
  have k3 := (itoa_c m 0 (by decide))
  rw [i5] at k1; rw [i7] at k2; rw [i0] at k3
  have l1 := (lineP m p1 p1_ok (by decide) (by simp [p1]))
  have l2 := (lineP m p2 p2_ok (by decide) (by simp [p2]))
  rw [q1_eq] at l1; rw [q2_eq] at l2
  refine pure_sk (own := owQ) Tryz.func14 (by kernel_rfl) mixed (by kernel_rfl)
    (.ff (.tt (.req ((0 : Int) ≤ (0 : Int) ∧ (0 : Int) < (↑(2) : Int)) (.ff (.tt (.req ((0 : Int) ≤ IntKind.wrap IntKind.i64 ((0 : Int) + (1 : Int)) ∧ IntKind.wrap IntKind.i64 ((0 : Int) + (1 : Int)) < (↑(2) : Int)) (.ff (.ff (.tt (.req ((0 : Int) ≤ (0 : Int) ∧ (0 : Int) < (↑(2) : Int)) (.sc (true) 35 ([Zi 5]) (AV.str (bs [(53 : UInt8)])) (.ff (.ff (.req ((0 : Int) ≤ IntKind.wrap IntKind.i64 ((8 : Int) - (1 : Int)) ∧ IntKind.wrap IntKind.i64 ((8 : Int) - (1 : Int)) < (↑(8) : Int)) (.sc (true) 28 ([AV.isl (1) (9) fun (r k : Nat) => atL (List.getD [[AV.ifc (9) (AV.str (bs [(116 : UInt8), (105 : UInt8), (99 : UInt8), (107 : UInt8)]))], [AV.ifc (9) (AV.str { data := #[(32 : UInt8)] })], [AV.ifc (3) (Zi 0)], [AV.ifc (9) (AV.str { data := #[(32 : UInt8)] })], [AV.ifc (3) (Zi 0)], [AV.ifc (9) (AV.str { data := #[(32 : UInt8)] })], [AV.ifc (3) (Zi 5)], [AV.ifc (9) (AV.str { data := #[(58 : UInt8), (32 : UInt8)] })], [AV.ifc (9) (AV.str (bs [(53 : UInt8)]))]] (r + 0) []) k]) (AV.str (bs q1)) (.req (14 ≤ 9223372036854775807) (.tt (.req ((0 : Int) ≤ IntKind.wrap IntKind.i64 ((0 : Int) + (1 : Int)) ∧ IntKind.wrap IntKind.i64 ((0 : Int) + (1 : Int)) < (↑(2) : Int)) (.sc (true) 35 ([Zi 0]) (AV.str (bs [(48 : UInt8)])) (.tt (.sc (true) 35 ([Zi 7]) (AV.str (bs [(55 : UInt8)])) (.req (7 ≤ 9223372036854775807) (.ff (.req ((0 : Int) ≤ IntKind.wrap IntKind.i64 ((4 : Int) - (1 : Int)) ∧ IntKind.wrap IntKind.i64 ((4 : Int) - (1 : Int)) < (↑(8) : Int)) (.sc (true) 28 ([AV.isl (1) (9) fun (r k : Nat) => atL (List.getD [[AV.ifc (9) (AV.str (bs [(100 : UInt8), (101 : UInt8), (112 : UInt8), (111 : UInt8), (115 : UInt8), (105 : UInt8), (116 : UInt8)]))], [AV.ifc (9) (AV.str { data := #[(32 : UInt8)] })], [AV.ifc (3) (Zi 2)], [AV.ifc (9) (AV.str { data := #[(32 : UInt8)] })], [AV.ifc (3) (Zi 0)], [AV.ifc (9) (AV.str { data := #[(32 : UInt8)] })], [AV.ifc (3) (Zi 0)], [AV.ifc (9) (AV.str { data := #[(58 : UInt8), (32 : UInt8)] })], [AV.ifc (9) (AV.str ({ data := #[(101 : UInt8), (114 : UInt8), (114 : UInt8), (111 : UInt8), (114 : UInt8), (32 : UInt8)] } ++ bs [(55 : UInt8)]))]] (r + 0) []) k]) (AV.str (bs q2)) (.req (37 ≤ 9223372036854775807) (.ff (.out (AV.tup [AV.str ({ data := #[] } ++ bs q1 ++ bs q2), Zi 0]) [] (AV.tup [AV.str (bs (q1 ++ q2)), Zi 0]) []))))))))))))))))))))))))))))
    (by kernel_rfl) ?_
  refine k_ff ?_
  refine k_tt ?_
  refine k_req (by first | omega | decide | exact of_decide_eq_true (by kernel_rfl)) ?_
  refine k_ff ?_
  refine k_tt ?_
  refine k_req (by first | omega | decide | exact of_decide_eq_true (by kernel_rfl)) ?_
  refine k_ff ?_
  refine k_ff ?_
  refine k_tt ?_
  refine k_req (by first | omega | decide | exact of_decide_eq_true (by kernel_rfl)) ?_
  refine k_sc (k1) ?_
  refine k_ff ?_
  refine k_ff ?_
  refine k_req (by first | omega | decide | exact of_decide_eq_true (by kernel_rfl)) ?_
  refine k_sc (l1) ?_
  refine k_req (by first | omega | decide | exact of_decide_eq_true (by kernel_rfl)) ?_
  refine k_tt ?_
  refine k_req (by first | omega | decide | exact of_decide_eq_true (by kernel_rfl)) ?_
  refine k_sc (k3) ?_
  refine k_tt ?_
  refine k_sc (k2) ?_
  refine k_req (by first | omega | decide | exact of_decide_eq_true (by kernel_rfl)) ?_
  refine k_ff ?_
  refine k_req (by first | omega | decide | exact of_decide_eq_true (by kernel_rfl)) ?_
  refine k_sc (l2) ?_
  refine k_req (by first | omega | decide | exact of_decide_eq_true (by kernel_rfl)) ?_
  refine k_ff ?_
  exact k_out (Ent.of_eq (by first | rfl | simp_all))
theorem totLn_eq (n : Int) : totLn n = totS n ++ [10] := by
  simp [totLn, flatP, totP, Part.t, totS]
theorem tot0 (f : Nat → Sup) : repV 0 f = [116, 111, 116, 97, 108, 32, 48, 10] ∧ smE 0 f = 0 := by
  have h : smE 0 f = 0 := (sm_3 (list_ok (by decide) (fun i hi => absurd hi (Nat.not_lt_zero i))) (fun i hi => absurd hi (Nat.not_lt_zero i))).2
  have h2 : smV 0 f = 0 := (sm_3 (list_ok (by decide) (fun i hi => absurd hi (Nat.not_lt_zero i))) (fun i hi => absurd hi (Nat.not_lt_zero i))).1
  refine ⟨?_, h⟩
  unfold repV
  rw [if_pos h, h2, totLn_eq, totS, i0]; rfl
theorem awake_w (m : GP) : Pure Tryz.prog (gl0 m) 6 [] (.bool true) := by
  have c1 := ((rep_c m 0 (fun _ => default) (by decide)).via (args := [.nsl]) ⟨Ent.nsl, trivial⟩)
  rw [(tot0 _).1, (tot0 _).2] at c1
  have c2 := steps_w m
  refine pure_sk (own := owQ) Tryz.func6 (by kernel_rfl) mixed (by kernel_rfl)
    (.sc (true) 14 ([AV.isl (8) (2) fun (r k : Nat) => atL (List.getD [[Zi 8, Zi 0, Zi 0, Zi 5, AV.bool false, Zi 0, Zi 5, AV.nsl], [Zi 4, Zi 2, Zi 0, Zi 0, AV.bool false, Zi 7, Zi 0, AV.nsl]] (r + 0) []) k]) (AV.tup [AV.str (bs (q1 ++ q2)), Zi 0]) (.sc (true) 10 ([AV.nsl]) (AV.tup [AV.str (bs [(116 : UInt8), (111 : UInt8), (116 : UInt8), (97 : UInt8), (108 : UInt8), (32 : UInt8), (48 : UInt8), (10 : UInt8)]), Zi 0]) (.out (AV.bool true) [] (AV.bool true) [])))
    (by kernel_rfl) ?_
  refine k_sc (c2) ?_
  refine k_sc (c1) ?_
  exact k_out (Ent.of_eq (by first | rfl | simp_all))
end Go.Proofs.YtbmdmoknnlhdoaaGreatDoor.O

namespace Go.Proofs.YtbmdmoknnlhdoaaGreatDoor.O
open Go Go.Am Go.Sp Go.Lib Go.RowKit
set_option maxRecDepth 100000

theorem d56_1 (m : GP) (n : Nat) (hn : n < 10) : Pure Tryz.prog (gl0 m) 30 [.int .i64 (n : Int)] (.str (bs (decDigits n))) := by
  refine pure_sk (own := ow0) Tryz.func30 (by kernel_rfl) mixed (by kernel_rfl)
    (.br (decide ((↑n : Int) < (0 : Int))) .no (.br (decide ((↑n : Int) ≥ (10 : Int))) .no (.out (AV.str (strOfNums [IntKind.wrap IntKind.u8 (IntKind.wrap IntKind.i64 ((48 : Int) + (↑n : Int)))])) [] (AV.str (bs (decDigits n))) [])))
    (by kernel_rfl) ?_
  refine k_br (fun h0 => ?_) (fun h0 => ?_)
  · have g0 := cnd_dec_t h0
    exact (show False from (by exfalso; omega))
  · have g0 := cnd_dec_f h0
    refine k_br (fun h2 => ?_) (fun h2 => ?_)
    · have g2 := cnd_dec_t h2
      exact (show False from (by exfalso; omega))
    · have g2 := cnd_dec_f h2
      exact k_out ((by first | (exfalso; omega) | exact Ent.of_eq (congrArg AV.str (dig_str hn))))

theorem d56_2 (m : GP) (n : Nat) (hn : 10 ≤ n) (A B : Str) (hab : A ++ B = decDigits n) (hl : A.length ≤ 100 ∧ B.length ≤ 100) (c1 : Pure Tryz.prog (gl0 m) 30 [.int .i64 (IntKind.wrap IntKind.i64 (Int.tdiv (n : Int) (10 : Int)))] (.str (bs A))) (c2 : Pure Tryz.prog (gl0 m) 30 [.int .i64 (Int.tmod (n : Int) (10 : Int))] (.str (bs B))) :
    Pure Tryz.prog (gl0 m) 30 [.int .i64 (n : Int)] (.str (bs (decDigits n))) := by
  have za := bs_size A
  have zb := bs_size B
  refine pure_sk (own := ow0) Tryz.func30 (by kernel_rfl) mixed (by kernel_rfl)
    (.br (decide ((↑n : Int) < (0 : Int))) .no (.br (decide ((↑n : Int) ≥ (10 : Int))) (.sc (true) 30 ([Zi (IntKind.wrap IntKind.i64 (Int.tdiv (↑n : Int) (10 : Int)))]) (AV.str (bs A)) (.sc (true) 30 ([Zi (Int.tmod (↑n : Int) (10 : Int))]) (AV.str (bs B)) (.req (ByteArray.size (bs A) + ByteArray.size (bs B) ≤ 9223372036854775807) (.out (AV.str (bs A ++ bs B)) [] (AV.str (bs (decDigits n))) [])))) (.out (AV.str (strOfNums [IntKind.wrap IntKind.u8 (IntKind.wrap IntKind.i64 ((48 : Int) + (↑n : Int)))])) [] (AV.str (bs (decDigits n))) [])))
    (by kernel_rfl) ?_
  refine k_br (fun h0 => ?_) (fun h0 => ?_)
  · have g0 := cnd_dec_t h0
    exact (show False from (by exfalso; omega))
  · have g0 := cnd_dec_f h0
    refine k_br (fun h2 => ?_) (fun h2 => ?_)
    · have g2 := cnd_dec_t h2
      refine k_sc (c1) ?_
      refine k_sc (c2) ?_
      refine k_req (by first | omega | (simp only [Int.toNat_natCast]; omega)) ?_
      exact k_out ((by first | (exfalso; omega) | exact Ent.of_eq (congrArg AV.str (by rw [bs_app, hab]))))
    · have g2 := cnd_dec_f h2
      exact k_out ((by first | (exfalso; omega) | exact Ent.of_eq (congrArg AV.str (by rw [bs_app, hab]))))

theorem d56_c (m : GP) : ∀ (n : Nat), n < 9223372036854775808 → Pure Tryz.prog (gl0 m) 30 [.int .i64 (n : Int)] (.str (bs (decDigits n))) := fun n => by
  induction n using Nat.strongRecOn with
  | _ n ih =>
    intro hn
    by_cases h : n < 10
    · exact d56_1 m n h
    · have l1 := nDigits_le (show n / 10 < 9223372036854775807 by omega)
      have l2 := nDigits_le (show n % 10 < 9223372036854775807 by omega)
      refine d56_2 m n (by omega) (decDigits (n / 10)) (decDigits (n % 10)) (dec_step (by omega)).symm ⟨by rw [decDigits_length]; omega, by rw [decDigits_length]; omega⟩ ?_ ?_
      · rw [show Int.tdiv (n : Int) (10 : Int) = ((n / 10 : Nat) : Int) from tdiv_n n 10, wI (by omega) (by omega)]
        exact ih (n / 10) (by omega) (by omega)
      · rw [show Int.tmod (n : Int) (10 : Int) = ((n % 10 : Nat) : Int) from tmod_n n 10]
        exact ih (n % 10) (by omega) (by omega)
theorem d56_p (m : GP) (n : Int) (h : 0 ≤ n ∧ n ≤ 9223372036854775807) : Pure Tryz.prog (gl0 m) 30 [.int .i64 n] (.str (bs (itoa n))) := by
  have := d56_c m n.toNat (by omega)
  rw [itoaN h.1]
  rwa [Int.toNat_of_nonneg h.1] at this

theorem d56_n (m : GP) (n : Int) (h : -9223372036854775808 < n ∧ n < 0) : Pure Tryz.prog (gl0 m) 30 [.int .i64 n] (.str (bs (itoa n))) := by
  have c1 : Pure Tryz.prog (gl0 m) 30 [.int .i64 (IntKind.wrap .i64 (0 - n))] (.str (bs (itoa (-n)))) := by
    rw [wI (by omega) (by omega), Int.zero_sub]; exact d56_p m (-n) (by omega)
  have l1 := itoa_l20 (n := -n) (by omega)
  have l2 := bs_size (itoa (-n))
  refine pure_sk (own := ow0) Tryz.func30 (by kernel_rfl) mixed (by kernel_rfl)
    (.br (decide (n < (0 : Int))) (.sc (true) 30 ([Zi (IntKind.wrap IntKind.i64 ((0 : Int) - n))]) (AV.str (bs (itoa (-n)))) (.req (1 + ByteArray.size (bs (itoa (-n))) ≤ 9223372036854775807) (.out (AV.str ({ data := #[(45 : UInt8)] } ++ bs (itoa (-n)))) [] (AV.str (bs (itoa n))) []))) (.br (decide (n ≥ (10 : Int))) .no (.out (AV.str (strOfNums [IntKind.wrap IntKind.u8 (IntKind.wrap IntKind.i64 ((48 : Int) + n))])) [] (AV.str (bs (itoa n))) [])))
    (by kernel_rfl) ?_
  refine k_br (fun h0 => ?_) (fun h0 => ?_)
  · have g0 := cnd_dec_t h0
    refine k_sc (c1) ?_
    refine k_req (by first | omega | (simp only [Int.toNat_natCast]; omega)) ?_
    exact k_out ((by first | (exfalso; omega) | exact Ent.of_eq (congrArg AV.str (by rw [itoa_neg1 h.2]; exact bs_app [45] _))))
  · have g0 := cnd_dec_f h0
    refine k_br (fun h4 => ?_) (fun h4 => ?_)
    · have g4 := cnd_dec_t h4
      exact (show False from (by exfalso; omega))
    · have g4 := cnd_dec_f h4
      exact k_out ((by first | (exfalso; omega) | exact Ent.of_eq (congrArg AV.str (by rw [itoa_neg1 h.2]; exact bs_app [45] _))))

theorem d56_a (m : GP) (n : Int) (h : -9223372036854775808 < n ∧ n ≤ 9223372036854775807) : Pure Tryz.prog (gl0 m) 30 [.int .i64 n] (.str (bs (itoa n))) := by
  by_cases h0 : 0 ≤ n
  · exact d56_p m n ⟨h0, h.2⟩
  · exact d56_n m n ⟨h.1, by omega⟩
theorem tqs_bnd {n : Int} (h : n ≤ -10) (h' : -9223372036854775808 ≤ n) : -922337203685477580 ≤ Int.tdiv n 10 ∧ Int.tdiv n 10 < 0 ∧ -10 < Int.tmod n 10 ∧ Int.tmod n 10 ≤ 0 := by
  obtain ⟨k, hk⟩ := Int.eq_ofNat_of_zero_le (show 0 ≤ -n by omega)
  obtain rfl : n = -(k : Int) := by omega
  rw [(tneg k).1, (tneg k).2]; omega

theorem d56_w (m : GP) (n : Int) (h : -9223372036854775808 < n ∧ n ≤ 9223372036854775807) : Pure Tryz.prog (gl0 m) 30 [.int .i64 (IntKind.wrap .i64 n)] (.str (bs (itoa n))) := by
  rw [wI (by omega) (by omega)]; exact d56_a m n h
theorem d56_z (m : GP) (n : Int) (h : -9223372036854775808 < n ∧ n ≤ 0) : Pure Tryz.prog (gl0 m) 30 [.int .i64 (IntKind.wrap .i64 (0 - n))] (.str (bs (itoa (-n)))) := by
  rw [wI (by omega) (by omega), Int.zero_sub]; exact d56_p m _ (by omega)
theorem sgn_1 (m : GP) (n : Int) (h : n < -4611686018427387904) (h' : -9223372036854775808 ≤ n) : Pure Tryz.prog (gl0 m) 40 [.int .i64 n] (.str (bs (itoa n))) := by
  obtain ⟨q1, q2, q3, q4⟩ := tqs_bnd (n := n) (by omega) h'
  have c1 := d56_w m (Int.tdiv n 10) (by omega)
  have c2 := d56_z m (Int.tmod n 10) (by omega)
  have l1 := itoa_l20 (n := Int.tdiv n 10) (by omega)
  have l3 := itoa_l20 (n := -(Int.tmod n 10)) (by omega)
  have l2 := bs_size (itoa (Int.tdiv n 10))
  have l4 := bs_size (itoa (-(Int.tmod n 10)))
  refine pure_sk (own := ow0) Tryz.func40 (by kernel_rfl) mixed (by kernel_rfl)
    (.br (decide (n < (-4611686018427387904 : Int))) (.sc (true) 30 ([Zi (IntKind.wrap IntKind.i64 (Int.tdiv n (10 : Int)))]) (AV.str (bs (itoa (Int.tdiv n (10 : Int))))) (.sc (true) 30 ([Zi (IntKind.wrap IntKind.i64 ((0 : Int) - Int.tmod n (10 : Int)))]) (AV.str (bs (itoa (-Int.tmod n (10 : Int))))) (.req (ByteArray.size (bs (itoa (Int.tdiv n (10 : Int)))) + ByteArray.size (bs (itoa (-Int.tmod n (10 : Int)))) ≤ 9223372036854775807) (.out (AV.str (bs (itoa (Int.tdiv n (10 : Int))) ++ bs (itoa (-Int.tmod n (10 : Int))))) [] (AV.str (bs (itoa n))) [])))) .no)
    (by kernel_rfl) ?_
  refine k_br (fun h0 => ?_) (fun h0 => ?_)
  · have g0 := cnd_dec_t h0
    refine k_sc (c1) ?_
    refine k_sc (c2) ?_
    refine k_req (by first | omega | (simp only [Int.toNat_natCast]; omega)) ?_
    exact k_out ((by first | (exfalso; omega) | exact Ent.of_eq (congrArg AV.str (by rw [itoa_sdiv (by omega : n ≤ -10), ← bs_app]))))
  · have g0 := cnd_dec_f h0
    exact (show False from (by exfalso; omega))

theorem sgn_2 (m : GP) (n : Int) (h : ¬ n < -4611686018427387904) (h' : n ≤ 9223372036854775807) : Pure Tryz.prog (gl0 m) 40 [.int .i64 n] (.str (bs (itoa n))) := by
  have c1 := d56_a m n (by omega)
  refine pure_sk (own := ow0) Tryz.func40 (by kernel_rfl) mixed (by kernel_rfl)
    (.br (decide (n < (-4611686018427387904 : Int))) .no (.sc (true) 30 ([Zi n]) (AV.str (bs (itoa n))) (.out (AV.str (bs (itoa n))) [] (AV.str (bs (itoa n))) [])))
    (by kernel_rfl) ?_
  refine k_br (fun h0 => ?_) (fun h0 => ?_)
  · have g0 := cnd_dec_t h0
    exact (show False from (by exfalso; omega))
  · have g0 := cnd_dec_f h0
    refine k_sc (c1) ?_
    exact k_out (Ent.refl _)

theorem sgn_c (m : GP) (n : Int) (h : -9223372036854775808 ≤ n ∧ n ≤ 9223372036854775807) : Pure Tryz.prog (gl0 m) 40 [.int .i64 n] (.str (bs (itoa n))) := by
  by_cases h0 : n < -4611686018427387904
  · exact sgn_1 m n h0 h.1
  · exact sgn_2 m n h0 h.2

theorem zLn (l : List UInt8) : (ByteArray.mk l.toArray).size = l.length := rfl
theorem rcm_s (f : Nat → Int) (x : Nat) : bs (cmL f (x + 1)) ++ ⟨#[44, 32]⟩ ++ bs (itoa (f ((x : Int) + 1).toNat)) = bs (cmL f (x + 1 + 1)) := by
  show bs _ ++ bs [44, 32] ++ bs _ = _
  rw [bs_app, bs_app, show ((x : Int) + 1).toNat = x + 1 by omega, cmL, List.append_assoc]
def cmW (f : Nat → Int) (n : Nat) (w : Str) : Str := if n = 0 then w else cmL f n
theorem rlist_c (m : GP) (f : Nat → Int) (n : Nat) (w : Str) (hn : n ≤ 200) (hf : ∀ i, i < n → -9223372036854775808 ≤ f i ∧ f i ≤ 9223372036854775807) : Pure Tryz.prog (gl0 m) 42 [.isl 1 n fun i _ => .int .i64 (f i), .str (bs w)] (.str (bs (cmW f n w))) := by
  have c1 := fun i hi => sgn_c m (f i) (hf i hi)
  have t1 := fun k hk => cmL_len f k (fun i hi => hf i (Nat.lt_of_lt_of_le hi hk))
  have t2 := fun i hi => itoa_l20 (hf i hi)
  refine pure_sk (own := ow0) Tryz.func42 (by kernel_rfl) mixed (by kernel_rfl)
    (.br ((↑n : Int) == (0 : Int)) (.out (AV.str (bs w)) [] (AV.str (bs (cmW f n w))) []) (.req ((0 : Int) ≤ (0 : Int) ∧ (0 : Int) < (↑n : Int)) (.sc (true) 40 ([Zi (f (0))]) (AV.str (bs (itoa (f (0))))) (.loop ({ x : Nat // x ≤ n - (1 : Nat) }) (fun (x : { x : Nat // x ≤ n - (1 : Nat) }) => mkSt [0, 5, 6] [AV.isl (1) n fun (i x : Nat) => Zi (f i), AV.str (bs (cmL f (x.1 + (1 : Nat)))), Zi ((↑(x.1) : Int) + (1 : Int))] []) (fun (x : { x : Nat // x ≤ n - (1 : Nat) }) => n - (1 : Nat) - x.1) (⟨(0 : Nat), Nat.zero_le (n - (1 : Nat))⟩) ([0, 5, 6]) ([]) ([AV.isl (1) n fun (i x : Nat) => Zi (f i), AV.str (bs (itoa (f (0)))), Zi 1]) ([]) (fun x4 => (.br (decide ((↑x4.1 : Int) + (1 : Int) < (↑n : Int))) (.req (ByteArray.size (bs (cmL f (x4.1 + 1))) + 2 ≤ 9223372036854775807) (.req ((0 : Int) ≤ (↑x4.1 : Int) + (1 : Int) ∧ (↑x4.1 : Int) + (1 : Int) < (↑n : Int)) (.sc (true) 40 ([Zi (f (Int.toNat ((↑x4.1 : Int) + (1 : Int))))]) (AV.str (bs (itoa (f (Int.toNat ((↑x4.1 : Int) + (1 : Int))))))) (.req (ByteArray.size (bs (cmL f (x4.1 + 1)) ++ { data := #[(44 : UInt8), (32 : UInt8)] }) + ByteArray.size (bs (itoa (f (Int.toNat ((↑x4.1 : Int) + (1 : Int)))))) ≤ 9223372036854775807) (.again (Again (0) (fun (x : { x : Nat // x ≤ n - (1 : Nat) }) => mkSt [0, 5, 6] [AV.isl (1) n fun (i x : Nat) => Zi (f i), AV.str (bs (cmL f (x.1 + (1 : Nat)))), Zi ((↑(x.1) : Int) + (1 : Int))] []) (fun (x : { x : Nat // x ≤ n - (1 : Nat) }) => n - (1 : Nat) - x.1) x4) ([0, 5, 6]) ([]) ([AV.isl (1) n fun (i x : Nat) => Zi (f i), AV.str (bs (cmL f (x4.1 + 1)) ++ { data := #[(44 : UInt8), (32 : UInt8)] } ++ bs (itoa (f (Int.toNat ((↑x4.1 : Int) + (1 : Int)))))), Zi (IntKind.wrap IntKind.i64 ((↑x4.1 : Int) + (1 : Int) + (1 : Int)))]) ([])))))) (.out (AV.str (bs (cmL f (x4.1 + 1)))) [] (AV.str (bs (cmW f n w))) [])))))))
    (by kernel_rfl) ?_
  refine k_br (fun h0 => ?_) (fun h0 => ?_)
  · have g0 := cnd_beq_t h0
    exact k_out (Ent.of_eq (by rw [cmW, if_pos (by omega)]))
  · have g0 := cnd_beq_f h0
    refine k_req (by first | omega | (simp only [Int.toNat_natCast, ByteArray.size_append, bs_size, zLn, List.length_cons, List.length_nil]; have q1 := t1 (x4.1 + 1) (by omega); have q2 := t2 (x4.1 + 1) (by omega); first | omega | (rw [show ((x4.1 : Int) + 1).toNat = x4.1 + 1 by omega]; omega))) ?_
    refine k_sc (c1 (0) (by first | assumption | omega)) ?_
    refine k_loop (fun _ hs => hs.le (by repeat' (first | exact trivial | exact Ent.refl _ | exact Ent.of_eq (congrArg AV.str (rcm_s f _)) | exact inc_ent (by omega) | exact Ent.of_eq (congrArg (AV.int _) (by first | omega | (dsimp only; omega) | (rw [wI (by omega) (by omega)]; push_cast; omega) | (rw [wI (by omega) (by omega)]; simp))) | refine And.intro ?_ ?_)) (trivial)) (fun x4 => ?_)
    try (have q4 := x4.2; dsimp only at q4)
    refine k_br (fun h5 => ?_) (fun h5 => ?_)
    · have g5 := cnd_dec_t h5
      refine k_req (by first | omega | (simp only [bs_size]; have q1 := t1 (x4.1 + 1) (by omega); have q2 := t2 (x4.1 + 1) (by omega); first | omega | (rw [show ((x4.1 : Int) + 1).toNat = x4.1 + 1 by omega]; omega))) ?_
      refine k_req (by first | omega | (simp only [Int.toNat_natCast, ByteArray.size_append, bs_size, zLn, List.length_cons, List.length_nil]; have q1 := t1 (x4.1 + 1) (by omega); have q2 := t2 (x4.1 + 1) (by omega); first | omega | (rw [show ((x4.1 : Int) + 1).toNat = x4.1 + 1 by omega]; omega))) ?_
      refine k_sc (c1 (Int.toNat ((↑x4.1 : Int) + (1 : Int))) (by first | assumption | omega)) ?_
      refine k_req (by first | omega | (simp only [ByteArray.size_append, bs_size, List.length_cons, List.length_nil]; have q1 := t1 (x4.1 + 1) (by omega); have q2 := t2 (x4.1 + 1) (by omega); first | omega | (rw [show ((x4.1 : Int) + 1).toNat = x4.1 + 1 by omega]; omega))) ?_
      exact k_again (⟨x4.1 + 1, by omega⟩) (fun _ hs => hs.le (by repeat' (first | exact trivial | exact Ent.refl _ | exact Ent.of_eq (congrArg AV.str (rcm_s f _)) | exact inc_ent (by omega) | exact Ent.of_eq (congrArg (AV.int _) (by first | omega | (dsimp only; omega) | (rw [wI (by omega) (by omega)]; push_cast; omega) | (rw [wI (by omega) (by omega)]; simp))) | refine And.intro ?_ ?_)) (trivial)) (by first | omega | (dsimp only; omega) | (simp; omega))
    · have g5 := cnd_dec_f h5
      exact k_out (Ent.of_eq (by rw [cmW, if_neg (by omega), show x4.1 + 1 = n by omega]))

theorem list_c (m : GP) (f : Nat → Int) (n : Nat) (hn : n ≤ 200) (hf : ∀ i, i < n → -9223372036854775808 ≤ f i ∧ f i ≤ 9223372036854775807) (c2 : ∀ k, k = n → Pure Tryz.prog (gl0 m) 70 [.isl 1 k fun r j => atL [.str (bs (itoa (f (r + 0))))] j, .str ⟨#[44, 32]⟩] (.str (bs (cmL f n)))) : Pure Tryz.prog (gl0 m) 34 [.isl 1 n fun i _ => .int .i64 (f i)] (.str (bs (cmL f n))) := by
  have c1 := fun i hi => itoa_c m (f i) (hf i hi)
  refine pure_sk (own := ow0) Tryz.func34 (by kernel_rfl) mixed (by kernel_rfl)
    (.loop ({ x : Nat // x ≤ n }) (fun (x : { x : Nat // x ≤ n }) => mkSt [6, 7, 3, 8] [AV.isl (1) n fun (i x : Nat) => Zi (f i), Zi (↑n : Int), AV.osl (0 : Nat) (1 : Nat) (0 : Nat) (x.1), Zi (↑(x.1) : Int)] [some { es := (1 : Nat), n := x.1, mu := true, f := Rep.row fun (i : Nat) => [AV.str (bs (itoa (f i)))] }]) (fun (x : { x : Nat // x ≤ n }) => n - x.1) (⟨(0 : Nat), Nat.zero_le n⟩) ([6, 7, 3, 8]) ([296]) ([AV.isl (1) n fun (i x : Nat) => Zi (f i), Zi (↑n : Int), AV.nsl, Zi 0]) ([some { es := 1, n := 0, mu := true, f := Rep.ty (999999999 : TypeId) (Rep.lst []) }]) (fun x0 => (.br (decide ((↑x0.1 : Int) < (↑n : Int))) (.req ((0 : Int) ≤ (↑x0.1 : Int) ∧ (↑x0.1 : Int) < (↑n : Int)) (.sc (true) 35 ([Zi (f (Int.toNat (↑x0.1 : Int)))]) (AV.str (bs (itoa (f (Int.toNat (↑x0.1 : Int)))))) (.req ((x0.1 + 1) * 16 ≤ 140737488355328) (.again (Again (0) (fun (x : { x : Nat // x ≤ n }) => mkSt [6, 7, 3, 8] [AV.isl (1) n fun (i x : Nat) => Zi (f i), Zi (↑n : Int), AV.osl (0 : Nat) (1 : Nat) (0 : Nat) (x.1), Zi (↑(x.1) : Int)] [some { es := (1 : Nat), n := x.1, mu := true, f := Rep.row fun (i : Nat) => [AV.str (bs (itoa (f i)))] }]) (fun (x : { x : Nat // x ≤ n }) => n - x.1) x0) ([6, 7, 3, 8]) ([65]) ([AV.isl (1) n fun (i x : Nat) => Zi (f i), Zi (↑n : Int), AV.osl (0) (1) (0) (x0.1 + 1), Zi (IntKind.wrap IntKind.i64 ((↑x0.1 : Int) + (1 : Int)))]) ([some { es := 1, n := x0.1 + 1, mu := true, f := Rep.cat x0.1 (Rep.row fun (i : Nat) => [AV.str (bs (itoa (f i)))]) (Rep.lst [[AV.str (bs (itoa (f (Int.toNat (↑x0.1 : Int)))))]]) }]))))) (.sc (true) 70 ([AV.isl (1) x0.1 fun (r k : Nat) => atL [AV.str (bs (itoa (f (r + 0))))] k, AV.str { data := #[(44 : UInt8), (32 : UInt8)] }]) (AV.str (bs (cmL f n))) (.out (AV.str (bs (cmL f n))) [] (AV.str (bs (cmL f n))) [])))))
    (by kernel_rfl) ?_
  refine k_loop (fun _ hs => hs.le (by repeat' (first | exact trivial | (first | exact Ent.refl _ | exact inc_ent (by omega) | exact Ent.nil rfl | exact Ent.of_eq (congrArg (AV.osl _ _ _) (by first | omega | (dsimp only; omega))) | exact Ent.of_eq (congrArg (AV.int _) (by first | omega | (dsimp only; omega)))) | refine And.intro ?_ ?_)) (by repeat' (first | exact trivial | (first | exact ObEnt.refl _ | exact ObEnt.junk | exact ObEnt.zero | exact ObEnt.push rfl rfl | exact ObEnt.pushRow rfl | exact ObEnt.len (by omega) | exact ObEnt.row (by repeat' (first | exact trivial | (first | exact Ent.refl _ | exact inc_ent (by omega) | exact Ent.nil rfl | exact Ent.of_eq (congrArg (AV.osl _ _ _) (by first | omega | (dsimp only; omega))) | exact Ent.of_eq (congrArg (AV.int _) (by first | omega | (dsimp only; omega)))) | refine And.intro ?_ ?_))) | refine And.intro ?_ ?_))) (fun x0 => ?_)
  try (have q0 := x0.2; dsimp only at q0)
  refine k_br (fun h1 => ?_) (fun h1 => ?_)
  · have g1 := cnd_dec_t h1
    refine k_req (by first | omega | (simp only [Int.toNat_natCast]; omega)) ?_
    refine k_sc (c1 (Int.toNat (↑x0.1 : Int)) (by first | assumption | omega)) ?_
    refine k_req (by first | omega | (simp only [Int.toNat_natCast]; omega)) ?_
    exact k_again (⟨x0.1 + 1, by omega⟩) (fun _ hs => hs.le (by repeat' (first | exact trivial | (first | exact Ent.refl _ | exact inc_ent (by omega) | exact Ent.nil rfl | exact Ent.of_eq (congrArg (AV.osl _ _ _) (by first | omega | (dsimp only; omega))) | exact Ent.of_eq (congrArg (AV.int _) (by first | omega | (dsimp only; omega)))) | refine And.intro ?_ ?_)) (by repeat' (first | exact trivial | (first | exact ObEnt.refl _ | exact ObEnt.junk | exact ObEnt.zero | exact ObEnt.push rfl rfl | exact ObEnt.pushRow rfl | exact ObEnt.len (by omega) | exact ObEnt.row (by repeat' (first | exact trivial | (first | exact Ent.refl _ | exact inc_ent (by omega) | exact Ent.nil rfl | exact Ent.of_eq (congrArg (AV.osl _ _ _) (by first | omega | (dsimp only; omega))) | exact Ent.of_eq (congrArg (AV.int _) (by first | omega | (dsimp only; omega)))) | refine And.intro ?_ ?_))) | refine And.intro ?_ ?_))) (by first | omega | (dsimp only; omega) | (simp; omega))
  · have g1 := cnd_dec_f h1
    refine k_sc (c2 (x0.1) (by first | assumption | omega)) ?_
    exact k_out (Ent.of_eq (by first | rfl | simp_all))

theorem rword_1 (m : GP) : Pure Tryz.prog (gl0 m) 44 [.int .i64 1] (.str (bs [119, 105, 116, 104, 100, 114, 97, 119])) := by
  refine pure_sk (own := ow0) Tryz.func44 (by kernel_rfl) mixed (by kernel_rfl)
    (.req ((0 : Int) ≤ (1 : Int) ∧ (1 : Int) < (↑(9) : Int)) (.out (AV.str { data := #[(119 : UInt8), (105 : UInt8), (116 : UInt8), (104 : UInt8), (100 : UInt8), (114 : UInt8), (97 : UInt8), (119 : UInt8)] }) [] (AV.str (bs [(119 : UInt8), (105 : UInt8), (116 : UInt8), (104 : UInt8), (100 : UInt8), (114 : UInt8), (97 : UInt8), (119 : UInt8)])) []))
    (by kernel_rfl) ?_
  refine k_req (by first | omega | (simp only [Int.toNat_natCast]; omega)) ?_
  exact k_out (Ent.refl _)

theorem rword_2 (m : GP) : Pure Tryz.prog (gl0 m) 44 [.int .i64 2] (.str (bs [112, 97, 121])) := by
  refine pure_sk (own := ow0) Tryz.func44 (by kernel_rfl) mixed (by kernel_rfl)
    (.req ((0 : Int) ≤ (2 : Int) ∧ (2 : Int) < (↑(9) : Int)) (.out (AV.str { data := #[(112 : UInt8), (97 : UInt8), (121 : UInt8)] }) [] (AV.str (bs [(112 : UInt8), (97 : UInt8), (121 : UInt8)])) []))
    (by kernel_rfl) ?_
  refine k_req (by first | omega | (simp only [Int.toNat_natCast]; omega)) ?_
  exact k_out (Ent.refl _)

theorem rword_3 (m : GP) : Pure Tryz.prog (gl0 m) 44 [.int .i64 3] (.str (bs [116, 114, 97, 110, 115, 102, 101, 114])) := by
  refine pure_sk (own := ow0) Tryz.func44 (by kernel_rfl) mixed (by kernel_rfl)
    (.req ((0 : Int) ≤ (3 : Int) ∧ (3 : Int) < (↑(9) : Int)) (.out (AV.str { data := #[(116 : UInt8), (114 : UInt8), (97 : UInt8), (110 : UInt8), (115 : UInt8), (102 : UInt8), (101 : UInt8), (114 : UInt8)] }) [] (AV.str (bs [(116 : UInt8), (114 : UInt8), (97 : UInt8), (110 : UInt8), (115 : UInt8), (102 : UInt8), (101 : UInt8), (114 : UInt8)])) []))
    (by kernel_rfl) ?_
  refine k_req (by first | omega | (simp only [Int.toNat_natCast]; omega)) ?_
  exact k_out (Ent.refl _)

theorem rword_4 (m : GP) : Pure Tryz.prog (gl0 m) 44 [.int .i64 4] (.str (bs [100, 101, 112, 111, 115, 105, 116])) := by
  refine pure_sk (own := ow0) Tryz.func44 (by kernel_rfl) mixed (by kernel_rfl)
    (.req ((0 : Int) ≤ (4 : Int) ∧ (4 : Int) < (↑(9) : Int)) (.out (AV.str { data := #[(100 : UInt8), (101 : UInt8), (112 : UInt8), (111 : UInt8), (115 : UInt8), (105 : UInt8), (116 : UInt8)] }) [] (AV.str (bs [(100 : UInt8), (101 : UInt8), (112 : UInt8), (111 : UInt8), (115 : UInt8), (105 : UInt8), (116 : UInt8)])) []))
    (by kernel_rfl) ?_
  refine k_req (by first | omega | (simp only [Int.toNat_natCast]; omega)) ?_
  exact k_out (Ent.refl _)

theorem rword_5 (m : GP) : Pure Tryz.prog (gl0 m) 44 [.int .i64 5] (.str (bs [107, 101, 101, 112])) := by
  refine pure_sk (own := ow0) Tryz.func44 (by kernel_rfl) mixed (by kernel_rfl)
    (.req ((0 : Int) ≤ (5 : Int) ∧ (5 : Int) < (↑(9) : Int)) (.out (AV.str { data := #[(107 : UInt8), (101 : UInt8), (101 : UInt8), (112 : UInt8)] }) [] (AV.str (bs [(107 : UInt8), (101 : UInt8), (101 : UInt8), (112 : UInt8)])) []))
    (by kernel_rfl) ?_
  refine k_req (by first | omega | (simp only [Int.toNat_natCast]; omega)) ?_
  exact k_out (Ent.refl _)

theorem rword_6 (m : GP) : Pure Tryz.prog (gl0 m) 44 [.int .i64 6] (.str (bs [116, 114, 97, 99, 101])) := by
  refine pure_sk (own := ow0) Tryz.func44 (by kernel_rfl) mixed (by kernel_rfl)
    (.req ((0 : Int) ≤ (6 : Int) ∧ (6 : Int) < (↑(9) : Int)) (.out (AV.str { data := #[(116 : UInt8), (114 : UInt8), (97 : UInt8), (99 : UInt8), (101 : UInt8)] }) [] (AV.str (bs [(116 : UInt8), (114 : UInt8), (97 : UInt8), (99 : UInt8), (101 : UInt8)])) []))
    (by kernel_rfl) ?_
  refine k_req (by first | omega | (simp only [Int.toNat_natCast]; omega)) ?_
  exact k_out (Ent.refl _)

theorem rword_7 (m : GP) : Pure Tryz.prog (gl0 m) 44 [.int .i64 7] (.str (bs [99, 108, 101, 97, 114])) := by
  refine pure_sk (own := ow0) Tryz.func44 (by kernel_rfl) mixed (by kernel_rfl)
    (.req ((0 : Int) ≤ (7 : Int) ∧ (7 : Int) < (↑(9) : Int)) (.out (AV.str { data := #[(99 : UInt8), (108 : UInt8), (101 : UInt8), (97 : UInt8), (114 : UInt8)] }) [] (AV.str (bs [(99 : UInt8), (108 : UInt8), (101 : UInt8), (97 : UInt8), (114 : UInt8)])) []))
    (by kernel_rfl) ?_
  refine k_req (by first | omega | (simp only [Int.toNat_natCast]; omega)) ?_
  exact k_out (Ent.refl _)

theorem rword_8 (m : GP) : Pure Tryz.prog (gl0 m) 44 [.int .i64 8] (.str (bs [116, 105, 99, 107])) := by
  refine pure_sk (own := ow0) Tryz.func44 (by kernel_rfl) mixed (by kernel_rfl)
    (.req ((0 : Int) ≤ (8 : Int) ∧ (8 : Int) < (↑(9) : Int)) (.out (AV.str { data := #[(116 : UInt8), (105 : UInt8), (99 : UInt8), (107 : UInt8)] }) [] (AV.str (bs [(116 : UInt8), (105 : UInt8), (99 : UInt8), (107 : UInt8)])) []))
    (by kernel_rfl) ?_
  refine k_req (by first | omega | (simp only [Int.toNat_natCast]; omega)) ?_
  exact k_out (Ent.refl _)

theorem rword_c (m : GP) (e : Int) (h : 1 ≤ e ∧ e ≤ 8) : Pure Tryz.prog (gl0 m) 44 [.int .i64 e] (.str (bs (stepW.getD (e - 1).toNat []))) := by
  have hc : e = 1 ∨ e = 2 ∨ e = 3 ∨ e = 4 ∨ e = 5 ∨ e = 6 ∨ e = 7 ∨ e = 8 := by omega
  rcases hc with rfl | rfl | rfl | rfl | rfl | rfl | rfl | rfl
  · exact rword_1 m
  · exact rword_2 m
  · exact rword_3 m
  · exact rword_4 m
  · exact rword_5 m
  · exact rword_6 m
  · exact rword_7 m
  · exact rword_8 m

end Go.Proofs.YtbmdmoknnlhdoaaGreatDoor.O

namespace Go.Sp
open Go Go.Am Go.Lib

theorem cm_tail (f : Nat → Int) : ∀ n, cmL f (n + 1) = itoa (f 0) ++ joinTail [44, 32] ((List.range n).map fun i => itoa (f (i + 1)))
  | 0 => by simp [cmL, joinTail]
  | n + 1 => by
    rw [cmL, cm_tail f n, List.range_succ, List.map_append, joinTail, joinTail, List.map_append, List.flatten_append]
    simp
theorem join_cm (f : Nat → Int) (n : Nat) : join ((List.range n).map fun i => itoa (f i)) [44, 32] = cmL f n := by
  cases n with
  | zero => rfl
  | succ n =>
    rw [List.range_succ_eq_map, List.map_cons, join_cons, cm_tail, List.map_map]; rfl

structure Stp where
  c : Cmd
  er : Int
  amt : Int
  n : Nat
  key : Nat → Int
def Stp.cells (s : Stp) : List AV := [.int .i64 s.c.kind, .int .i64 s.c.who, .int .i64 s.c.whom, .int .i64 s.c.amount, .bool s.c.honest, .int .i64 s.er, .int .i64 s.amt, .isl 1 s.n fun i _ => .int .i64 (s.key i)]
def stpA (n : Nat) (f : Nat → Stp) : AV := .isl 8 n fun i j => atL (f i).cells j
def I6 (n : Int) : Prop := -9223372036854775808 ≤ n ∧ n ≤ 9223372036854775807
structure Stp.R (s : Stp) : Prop where
  who : I6 s.c.who
  whom : I6 s.c.whom
  amount : I6 s.c.amount
  amt : I6 s.amt
  key : ∀ i, i < s.n → I6 (s.key i)
def stpOk (s : Stp) : Bool := decide (1 ≤ s.c.kind) && decide (s.c.kind ≤ 8) && decide (0 ≤ s.er) && decide (s.er ≤ 20) && decide (s.n ≤ 100)
theorem stpOk_iff {s : Stp} : stpOk s = true ↔ 1 ≤ s.c.kind ∧ s.c.kind ≤ 8 ∧ 0 ≤ s.er ∧ s.er ≤ 20 ∧ s.n ≤ 100 := by
  simp [stpOk, and_assoc]
def stepK : List Str := [[119, 105, 116, 104, 100, 114, 97, 119], [112, 97, 121], [116, 114, 97, 110, 115, 102, 101, 114], [100, 101, 112, 111, 115, 105, 116], [107, 101, 101, 112], [116, 114, 97, 99, 101], [99, 108, 101, 97, 114], [116, 105, 99, 107]]
theorem stepK_le (i : Nat) : (stepK.getD i []).length ≤ 8 := by
  have : ∀ w ∈ stepK, w.length ≤ 8 := by decide
  rw [List.getD_eq_getElem?_getD]
  cases h : stepK[i]? with
  | none => exact Nat.zero_le _
  | some w => exact this w (List.mem_of_getElem? h)
def resS (s : Stp) : Str := (if s.er = 0 then itoa s.amt else [101, 114, 114, 111, 114, 32] ++ itoa s.er) ++ (if 0 < s.n then [32, 103, 117, 105, 108, 116, 121, 32] ++ cmL s.key s.n else [])
def preS (s : Stp) : Str := stepK.getD (s.c.kind - 1).toNat [] ++ [32] ++ itoa s.c.who ++ [32] ++ itoa s.c.whom ++ [32] ++ itoa s.c.amount ++ [58, 32]
def stpS (s : Stp) : Str := preS s ++ resS s ++ [10]
def stpsF (f : Nat → Stp) : Nat → Str
  | 0 => []
  | k + 1 => stpsF f k ++ stpS (f k)
def stpsB (f : Nat → Stp) (n : Nat) : Bool := (List.range n).all fun i => stpOk (f i)
def stepsE (n : Nat) (f : Nat → Stp) : Int := if 1000 < n then 5 else if stpsB f n = true then 0 else 1
def stepsV (n : Nat) (f : Nat → Stp) : Str := if 1000 < n then [] else if stpsB f n = true then stpsF f n else []
theorem steps_1 {n : Nat} {f : Nat → Stp} {i : Nat} (h : ¬ 1000 < n) (hi : i < n) (hb : stpOk (f i) = false) : stepsE n f = 1 ∧ stepsV n f = [] := by
  have : ¬ stpsB f n = true := fun hh => by
    have := List.all_eq_true.1 hh i (List.mem_range.2 hi)
    rw [hb] at this; cases this
  unfold stepsE stepsV
  rw [if_neg h, if_neg h, if_neg this, if_neg this]; exact ⟨rfl, rfl⟩
theorem steps_0 {n : Nat} {f : Nat → Stp} (h : ¬ 1000 < n) (hb : ∀ i, i < n → stpOk (f i) = true) : stepsE n f = 0 ∧ stepsV n f = stpsF f n := by
  have : stpsB f n = true := List.all_eq_true.2 fun i hi => hb i (List.mem_range.1 hi)
  unfold stepsE stepsV
  rw [if_neg h, if_neg h, if_pos this, if_pos this]; exact ⟨rfl, rfl⟩
theorem resS_le {s : Stp} (h : s.R) (hk : stpOk s = true) : (resS s).length ≤ 2300 := by
  obtain ⟨_, _, h3, h4, h5⟩ := stpOk_iff.1 hk
  have l1 := itoa_l20 h.amt
  have l2 := itoa_l20 (n := s.er) (by omega)
  have l3 := cmL_len s.key s.n h.key
  unfold resS
  rw [List.length_append]
  split <;> split <;> simp only [List.length_append, List.length_cons, List.length_nil] <;> omega
theorem preS_le {s : Stp} (h : s.R) : (preS s).length ≤ 80 := by
  have l1 := itoa_l20 h.who
  have l2 := itoa_l20 h.whom
  have l3 := itoa_l20 h.amount
  have l4 := stepK_le (s.c.kind - 1).toNat
  unfold preS
  simp only [List.length_append, List.length_cons, List.length_nil]; omega
theorem stpsF_le {n : Nat} {f : Nat → Stp} (h : ∀ i, i < n → (f i).R) (hk : ∀ i, i < n → stpOk (f i) = true) : ∀ k, k ≤ n → (stpsF f k).length ≤ 2400 * k
  | 0, _ => Nat.le_refl _
  | k + 1, hh => by
    have h1 := stpsF_le h hk k (by omega)
    have h2 := resS_le (h k (by omega)) (hk k (by omega))
    have h3 := preS_le (h k (by omega))
    rw [stpsF, stpS, List.length_append, List.length_append, List.length_append]; simp only [List.length_cons, List.length_nil]; omega
end Go.Sp

namespace Go.Proofs.YtbmdmoknnlhdoaaGreatDoor.O
open Go Go.Am Go.Sp Go.Lib Go.RowKit
set_option maxRecDepth 100000

theorem cmK (f : Nat → Int) (n : Nat) : joinK ((List.range n).map fun i => itoa (f i)) = cmL f n := join_cm f n
theorem joinN_c (m : GP) (f : Nat → Int) (n : Nat) (hn : n ≤ 200) (hf : ∀ i, i < n → I6 (f i)) : ∀ k, k = n → Pure Tryz.prog (gl0 m) 70 [.isl 1 k fun r j => atL [.str (bs (itoa (f (r + 0))))] j, .str ⟨#[44, 32]⟩] (.str (bs (cmL f n))) := by
  rintro k rfl
  have hl := cmL_len f k hf
  have c := joinC_c m ((List.range k).map fun i => itoa (f i)) (by rw [cmK]; omega) (by simp; omega)
  rw [cmK] at c
  refine c.via (args := [.isl 1 k fun r j => atL [.str (bs (itoa (f (r + 0))))] j, .str ⟨#[44, 32]⟩]) ⟨?_, Ent.refl _, trivial⟩
  have e : ((List.range k).map fun i => itoa (f i)).length = k := by simp
  have key : ∀ q, q = k → Ent [] (.isl 1 k fun r j => atL [.str (bs (itoa (f (r + 0))))] j) (.isl 1 q fun i _ => .str (bs (((List.range k).map fun i => itoa (f i)).getD i []))) := by
    rintro _ rfl
    refine Ent.isl fun i j hi hj => ?_
    obtain rfl : j = 0 := Nat.lt_one_iff.1 hj
    show AV.str (bs (itoa (f i))) = _
    simp [List.getD_eq_getElem?_getD, hi]
  exact key _ e
theorem plist_c (m : GP) (f : Nat → Int) (n : Nat) (hn : n ≤ 200) (hf : ∀ i, i < n → I6 (f i)) : Pure Tryz.prog (gl0 m) 34 [.isl 1 n fun i _ => .int .i64 (f i)] (.str (bs (cmL f n))) := list_c m f n hn hf (joinN_c m f n hn hf)

theorem lineB (m : GP) (s : Stp) (h : s.R) (hk : 1 ≤ s.c.kind ∧ s.c.kind ≤ 8) (B : ByteArray) (hB : B.size ≤ 100000) : Pure Tryz.prog (gl0 m) 28 [.isl 1 9 fun r k => atL (List.getD [[.ifc 9 (.str (bs (stepW.getD (IntKind.wrap .i64 (s.c.kind - 1)).toNat [])))], [.ifc 9 (.str ⟨#[32]⟩)], [.ifc 3 (.int .i64 s.c.who)], [.ifc 9 (.str ⟨#[32]⟩)], [.ifc 3 (.int .i64 s.c.whom)], [.ifc 9 (.str ⟨#[32]⟩)], [.ifc 3 (.int .i64 s.c.amount)], [.ifc 9 (.str ⟨#[58, 32]⟩)], [.ifc 9 (.str B)]] r []) k] (.str (bs (preS s) ++ B ++ ⟨#[10]⟩)) := by
  rw [wI (n := s.c.kind - 1) (by omega) (by omega)]
  have hw : (stepW.getD (s.c.kind - 1).toNat []).length ≤ 100000 := Nat.le_trans (stepK_le _) (by decide)
  have c := lineP m [.s (stepW.getD (s.c.kind - 1).toNat []), .s [32], .n s.c.who, .s [32], .n s.c.whom, .s [32], .n s.c.amount, .s [58, 32], .s B.data.toList] (by
    intro p hp
    simp only [List.mem_cons, List.not_mem_nil, or_false] at hp
    rcases hp with rfl | rfl | rfl | rfl | rfl | rfl | rfl | rfl | rfl
    · exact hw
    · exact Nat.le_of_ble_eq_true rfl
    · exact h.who
    · exact Nat.le_of_ble_eq_true rfl
    · exact h.whom
    · exact Nat.le_of_ble_eq_true rfl
    · exact h.amount
    · exact Nat.le_of_ble_eq_true rfl
    · exact (show B.data.toList.length ≤ 100000 by rw [Array.length_toList]; exact hB)) (show 9 ≤ 1000 by decide) (by simp)
  have e : flatP [.s (stepW.getD (s.c.kind - 1).toNat []), .s [32], .n s.c.who, .s [32], .n s.c.whom, .s [32], .n s.c.amount, .s [58, 32], .s B.data.toList] 9 = preS s ++ B.data.toList := by
    simp [flatP, Part.t, preS, stepW, stepK]
  have e2 : bs B.data.toList = B := rfl
  unfold litP at c
  simp only [List.map_cons, List.map_nil, Part.a, e2] at c
  have e3 : bs (preS s) ++ B ++ ⟨#[10]⟩ = bs (preS s ++ B.data.toList ++ [10]) := by
    show bs (preS s) ++ bs B.data.toList ++ bs [10] = _
    rw [bs_app, bs_app]
  rw [e3, ← e]
  exact c

theorem steps_5c (m:GP) (f:Nat→Stp) (n:Nat) (hn:1000<n∧n≤1100):Pure Tryz.prog (gl0 m) 14 [stpA n f] (.tup [.str (bs []),.int .i64 5]):=by
 refine pure_sk (own:=ow0) Tryz.func14 (by kernel_rfl) mixed (by kernel_rfl)
  (.br (decide ((↑n:Int)>(1000:Int))) (.out (AV.tup [AV.str { data := #[] },Zi 5]) [] (AV.tup [AV.str (bs []),Zi 5]) []) .no)
  (by kernel_rfl) ?_
 refine k_br (fun h0=>?_) (fun h0=>?_)
 ·have g0:=cnd_dec_t h0
  exact k_out (Ent.of_eq rfl)
 ·have g0:=cnd_dec_f h0
  exact (show False from ((by omega)))
theorem rsteps_5c (m:GP) (f:Nat→Stp) (n:Nat) (hn:1000<n∧n≤1100):Pure Tryz.prog (gl0 m) 15 [stpA n f] (.tup [.str (bs []),.int .i64 5]):=by
 refine pure_sk (own:=ow0) Tryz.func15 (by kernel_rfl) mixed (by kernel_rfl)
  (.br (decide ((↑n:Int)>(1000:Int))) (.out (AV.tup [AV.str { data := #[] },Zi 5]) [] (AV.tup [AV.str (bs []),Zi 5]) []) .no)
  (by kernel_rfl) ?_
 refine k_br (fun h0=>?_) (fun h0=>?_)
 ·have g0:=cnd_dec_t h0
  exact k_out (Ent.of_eq rfl)
 ·have g0:=cnd_dec_f h0
  exact (show False from ((by omega)))
theorem stp_app {s:Stp} {X:Str} {B:ByteArray} (hB:B=bs (resS s)):bs X++(bs (preS s)++B++⟨#[10]⟩)=bs (X++stpS s):=by
 subst hB
 show bs X++(bs (preS s)++bs (resS s)++bs [10])=_
 rw [bs_app,bs_app,bs_app];rfl
theorem res_1 {s:Stp} (h:¬s.er=0) (h':(s.n:Int)>0):⟨#[101,114,114,111,114,32]⟩++bs (itoa s.er)++(⟨#[32,103,117,105,108,116,121,32]⟩++bs (cmL s.key s.n))=bs (resS s):=by
 show bs [101,114,114,111,114,32]++bs _++(bs [32,103,117,105,108,116,121,32]++bs _)=_
 rw [bs_app,bs_app,bs_app,resS,if_neg h,if_pos (by omega)]
theorem res_2 {s:Stp} (h:¬s.er=0) (h':¬(s.n:Int)>0):⟨#[101,114,114,111,114,32]⟩++bs (itoa s.er)=bs (resS s):=by
 show bs [101,114,114,111,114,32]++bs _=_
 rw [bs_app,resS,if_neg h,if_neg (by omega),List.append_nil]
theorem res_3 {s:Stp} (h:s.er=0) (h':(s.n:Int)>0):bs (itoa s.amt)++(⟨#[32,103,117,105,108,116,121,32]⟩++bs (cmL s.key s.n))=bs (resS s):=by
 show bs _++(bs [32,103,117,105,108,116,121,32]++bs _)=_
 rw [bs_app,bs_app,resS,if_pos h,if_pos (by omega)]
theorem res_4 {s:Stp} (h:s.er=0) (h':¬(s.n:Int)>0):bs (itoa s.amt)=bs (resS s):=by
 rw [resS,if_pos h,if_neg (by omega),List.append_nil]
theorem stpOk_f {s:Stp} (h:(((s.c.kind<1∨s.c.kind>8)∨s.er<0)∨s.er>20)∨(s.n:Int)>100):stpOk s=false:=by
 cases e:stpOk s with
 | false=>rfl
 | true=>have k:=stpOk_iff.1 e;omega
theorem stpOk_t {s:Stp} (h:(((¬s.c.kind<1∧¬s.c.kind>8)∧¬s.er<0)∧¬s.er>20)∧¬(s.n:Int)>100):stpOk s=true:=stpOk_iff.2 (by omega)
structure StpF (s:Stp) (X:Str):Prop where
 k:1≤s.c.kind∧s.c.kind≤8∧0≤s.er∧s.er≤20∧s.n≤100
 a:(itoa s.amt).length≤20
 e:(itoa s.er).length≤20
 l:(cmL s.key s.n).length≤22*s.n
 p:(preS s).length≤80
 x:X.length≤100000
theorem stpF_of {f:Nat→Stp} {n k:Nat} (hn:n≤40) (hR:∀ i,i<n→(f i).R) (KK:∀ j,j<n→stpOk (f j)=true) (hk:k<n):StpF (f k) (stpsF f k):=by
 have K1:=stpOk_iff.1 (KK k hk)
 have R1:=hR k hk
 have:=stpsF_le hR KK k (by omega)
 exact ⟨K1,itoa_l20 R1.amt,itoa_l20 (by omega),cmL_len _ _ R1.key,preS_le R1,by omega⟩
theorem stpF_in {f:Nat→Stp} {n k:Nat} (hn:n≤40) (hR:∀ i,i<n→(f i).R) (KK:∀ j,j<k→stpOk (f j)=true) (hk:k<n) (h:stpOk (f k)=true):StpF (f k) (stpsF f k) :=
 stpF_of (n:=k+1) (by omega) (fun i hi=>hR i (by omega)) (fun j hj=>by rcases Nat.lt_succ_iff_lt_or_eq.1 hj with hj|rfl;(· exact KK j hj);(· exact h)) (Nat.lt_succ_self k)
set_option maxHeartbeats 4000000 in
theorem steps_c (m:GP) (f:Nat→Stp) (n:Nat) (hn:n≤40) (hR:∀ i,i<n→(f i).R):Pure Tryz.prog (gl0 m) 14 [stpA n f] (.tup [.str (bs (stepsV n f)),.int .i64 (stepsE n f)]):=by
 have L1:=fun i (hi:i<n) (hb:stpOk (f i)=false)=>steps_1 (f:=f) (show ¬1000<n by omega) hi hb
 have L0:=fun hb=>steps_0 (f:=f) (show ¬1000<n by omega) hb
 have c1:=fun i (hi:i<n)=>itoa_c m (f i).amt (hR i hi).amt
 have c2:=fun i (h : -9223372036854775808≤(f i).er∧(f i).er≤9223372036854775807)=>itoa_c m (f i).er h
 have c3:=fun i (hi:i<n) (hk:(f i).n≤200)=>plist_c m (f i).key (f i).n hk (hR i hi).key
 have c4:=fun i (hi:i<n) hk B hB=>lineB m (f i) (hR i hi) hk B hB
 refine pure_sk (own:=ow0) Tryz.func14 (by kernel_rfl) mixed (by kernel_rfl)
  (.br (decide ((↑n:Int)>(1000:Int))) (.out (AV.tup [AV.str { data := #[] },Zi 5]) [] (AV.tup [AV.str (bs (stepsV n f)),Zi (stepsE n f)]) []) (.loop ({ x:Nat // x≤n∧(fun (x:Nat)=>∀ (j:Nat),j<x→stpOk (f j)=true) x }) (fun (x:{ x:Nat // x≤n∧(fun (x:Nat)=>∀ (j:Nat),j<x→stpOk (f j)=true) x })=>mkSt [0,10,13,14,15] [AV.isl (8) n fun (i j:Nat)=>atL (Stp.cells (f i)) j,AV.isl (8) n fun (i j:Nat)=>atL (Stp.cells (f i)) j,AV.isl (8) n fun (i j:Nat)=>atL (Stp.cells (f i)) j,Zi (↑n:Int),Zi (↑(x.1):Int)] []) (fun (x:{ x:Nat // x≤n∧(fun (x:Nat)=>∀ (j:Nat),j<x→stpOk (f j)=true) x })=>n - x.1) (⟨(0:Nat),⟨Nat.zero_le n,fun (j:Nat) (hj:j<(0:Nat))=>absurd hj (Nat.not_lt_zero j)⟩⟩) ([0,10,13,14,15]) ([]) ([AV.isl (8) n fun (i j:Nat)=>atL (Stp.cells (f i)) j,AV.isl (8) n fun (i j:Nat)=>atL (Stp.cells (f i)) j,AV.isl (8) n fun (i j:Nat)=>atL (Stp.cells (f i)) j,Zi (↑n:Int),Zi 0]) ([]) (fun x2=>(.br (decide ((↑x2.1:Int)<(↑n:Int))) (.req ((0:Int)≤(↑x2.1:Int)∧(↑x2.1:Int)<(↑n:Int)) (.br (decide ((Stp.c (f (Int.toNat (↑(x2.1):Int)))).1<(1:Int))||decide ((Stp.c (f (Int.toNat (↑(x2.1):Int)))).1>(8:Int))||decide ((f (Int.toNat (↑(x2.1):Int))).2<(0:Int))||decide ((f (Int.toNat (↑(x2.1):Int))).2>(20:Int))||decide ((↑(f (Int.toNat (↑(x2.1):Int))).4:Int)>(100:Int))) (.out (AV.tup [AV.str { data := #[] },Zi 1]) [] (AV.tup [AV.str (bs (stepsV n f)),Zi (stepsE n f)]) []) (.again (Again (0) (fun (x:{ x:Nat // x≤n∧(fun (x:Nat)=>∀ (j:Nat),j<x→stpOk (f j)=true) x })=>mkSt [0,10,13,14,15] [AV.isl (8) n fun (i j:Nat)=>atL (Stp.cells (f i)) j,AV.isl (8) n fun (i j:Nat)=>atL (Stp.cells (f i)) j,AV.isl (8) n fun (i j:Nat)=>atL (Stp.cells (f i)) j,Zi (↑n:Int),Zi (↑(x.1):Int)] []) (fun (x:{ x:Nat // x≤n∧(fun (x:Nat)=>∀ (j:Nat),j<x→stpOk (f j)=true) x })=>n - x.1) x2) ([0,10,13,14,15]) ([]) ([AV.isl (8) n fun (i j:Nat)=>atL (Stp.cells (f i)) j,AV.isl (8) n fun (i j:Nat)=>atL (Stp.cells (f i)) j,AV.isl (8) n fun (i j:Nat)=>atL (Stp.cells (f i)) j,Zi (↑n:Int),Zi (IntKind.wrap IntKind.i64 ((↑x2.1:Int)+(1:Int)))]) ([])))) (.loop ({ x:Nat // x≤n }) (fun (x:{ x:Nat // x≤n })=>mkSt [46,47,6,48] [AV.isl (8) n fun (i j:Nat)=>atL (Stp.cells (f i)) j,Zi (↑n:Int),AV.str (bs (stpsF f (x.1))),Zi (↑(x.1):Int)] []) (fun (x:{ x:Nat // x≤n })=>n - x.1) (⟨(0:Nat),Nat.zero_le n⟩) ([46,47,6,48]) ([]) ([AV.isl (8) n fun (i j:Nat)=>atL (Stp.cells (f i)) j,Zi (↑n:Int),AV.str { data := #[] },Zi 0]) ([]) (fun x8=>(.br (decide ((↑x8.1:Int)<(↑n:Int))) (.req ((0:Int)≤(↑x8.1:Int)∧(↑x8.1:Int)<(↑n:Int)) (.sc (true) 35 ([Zi (f (Int.toNat (↑(x8.1):Int))).3]) (AV.str (bs (itoa (Stp.amt (f (Int.toNat (↑(x8.1):Int))))))) (.br ((f (Int.toNat (↑(x8.1):Int))).2 != (0:Int)) (.sc (true) 35 ([Zi (f (Int.toNat (↑(x8.1):Int))).2]) (AV.str (bs (itoa (Stp.er (f (Int.toNat (↑(x8.1):Int))))))) (.req (6+ByteArray.size (bs (itoa (f (Int.toNat (↑(x8.1):Int))).2))≤9223372036854775807) (.br (decide ((↑(f (Int.toNat (↑(x8.1):Int))).4:Int)>(0:Int))) (.sc (true) 34 ([AV.isl (1) (f (Int.toNat (↑(x8.1):Int))).4 fun (i x:Nat)=>Zi ((f (Int.toNat (↑(x8.1):Int))).5 i)]) (AV.str (bs (cmL (Stp.key (f (Int.toNat (↑(x8.1):Int)))) (Stp.n (f (Int.toNat (↑(x8.1):Int))))))) (.req (8+ByteArray.size (bs (cmL (f (Int.toNat (↑(x8.1):Int))).5 (f (Int.toNat (↑(x8.1):Int))).4))≤9223372036854775807) (.req (ByteArray.size ({ data := #[(101:UInt8),(114:UInt8),(114:UInt8),(111:UInt8),(114:UInt8),(32:UInt8)] }++bs (itoa (f (Int.toNat (↑(x8.1):Int))).2))+ByteArray.size ({ data := #[(32:UInt8),(103:UInt8),(117:UInt8),(105:UInt8),(108:UInt8),(116:UInt8),(121:UInt8),(32:UInt8)] }++bs (cmL (f (Int.toNat (↑(x8.1):Int))).5 (f (Int.toNat (↑(x8.1):Int))).4))≤9223372036854775807) (.req ((0:Int)≤IntKind.wrap IntKind.i64 ((Stp.c (f (Int.toNat (↑(x8.1):Int)))).1 - (1:Int))∧IntKind.wrap IntKind.i64 ((Stp.c (f (Int.toNat (↑(x8.1):Int)))).1 - (1:Int))<(↑(8):Int)) (.sc (true) 28 ([AV.isl (1) (9) fun (r k:Nat)=>atL (List.getD [[AV.ifc (9) (AV.str (bs (List.getD stepW (Int.toNat (IntKind.wrap IntKind.i64 ((Stp.c (f (Int.toNat (↑(x8.1):Int)))).1 - (1:Int)))) [])))],[AV.ifc (9) (AV.str { data := #[(32:UInt8)] })],[AV.ifc (3) (Zi (Stp.c (f (Int.toNat (↑(x8.1):Int)))).2)],[AV.ifc (9) (AV.str { data := #[(32:UInt8)] })],[AV.ifc (3) (Zi (Stp.c (f (Int.toNat (↑(x8.1):Int)))).3)],[AV.ifc (9) (AV.str { data := #[(32:UInt8)] })],[AV.ifc (3) (Zi (Stp.c (f (Int.toNat (↑(x8.1):Int)))).4)],[AV.ifc (9) (AV.str { data := #[(58:UInt8),(32:UInt8)] })],[AV.ifc (9) (AV.str ({ data := #[(101:UInt8),(114:UInt8),(114:UInt8),(111:UInt8),(114:UInt8),(32:UInt8)] }++bs (itoa (f (Int.toNat (↑(x8.1):Int))).2)++({ data := #[(32:UInt8),(103:UInt8),(117:UInt8),(105:UInt8),(108:UInt8),(116:UInt8),(121:UInt8),(32:UInt8)] }++bs (cmL (f (Int.toNat (↑(x8.1):Int))).5 (f (Int.toNat (↑(x8.1):Int))).4))))]] (r+0) []) k]) (AV.str (bs (preS (f (Int.toNat (↑(x8.1):Int))))++({ data := #[(101:UInt8),(114:UInt8),(114:UInt8),(111:UInt8),(114:UInt8),(32:UInt8)] }++bs (itoa (f (Int.toNat (↑(x8.1):Int))).2)++({ data := #[(32:UInt8),(103:UInt8),(117:UInt8),(105:UInt8),(108:UInt8),(116:UInt8),(121:UInt8),(32:UInt8)] }++bs (cmL (f (Int.toNat (↑(x8.1):Int))).5 (f (Int.toNat (↑(x8.1):Int))).4)))++{ data := #[(10:UInt8)] })) (.req (ByteArray.size (bs (stpsF f x8.1))+ByteArray.size (bs (preS (f (Int.toNat (↑x8.1:Int))))++({ data := #[(101:UInt8),(114:UInt8),(114:UInt8),(111:UInt8),(114:UInt8),(32:UInt8)] }++bs (itoa (f (Int.toNat (↑(x8.1):Int))).2)++({ data := #[(32:UInt8),(103:UInt8),(117:UInt8),(105:UInt8),(108:UInt8),(116:UInt8),(121:UInt8),(32:UInt8)] }++bs (cmL (f (Int.toNat (↑(x8.1):Int))).5 (f (Int.toNat (↑(x8.1):Int))).4)))++{ data := #[(10:UInt8)] })≤9223372036854775807) (.again (Again (0) (fun (x:{ x:Nat // x≤n })=>mkSt [46,47,6,48] [AV.isl (8) n fun (i j:Nat)=>atL (Stp.cells (f i)) j,Zi (↑n:Int),AV.str (bs (stpsF f (x.1))),Zi (↑(x.1):Int)] []) (fun (x:{ x:Nat // x≤n })=>n - x.1) x8) ([46,47,6,48]) ([]) ([AV.isl (8) n fun (i j:Nat)=>atL (Stp.cells (f i)) j,Zi (↑n:Int),AV.str (bs (stpsF f x8.1)++(bs (preS (f (Int.toNat (↑x8.1:Int))))++({ data := #[(101:UInt8),(114:UInt8),(114:UInt8),(111:UInt8),(114:UInt8),(32:UInt8)] }++bs (itoa (f (Int.toNat (↑(x8.1):Int))).2)++({ data := #[(32:UInt8),(103:UInt8),(117:UInt8),(105:UInt8),(108:UInt8),(116:UInt8),(121:UInt8),(32:UInt8)] }++bs (cmL (f (Int.toNat (↑(x8.1):Int))).5 (f (Int.toNat (↑(x8.1):Int))).4)))++{ data := #[(10:UInt8)] })),Zi (IntKind.wrap IntKind.i64 ((↑x8.1:Int)+(1:Int)))]) ([])))))))) (.req ((0:Int)≤IntKind.wrap IntKind.i64 ((Stp.c (f (Int.toNat (↑(x8.1):Int)))).1 - (1:Int))∧IntKind.wrap IntKind.i64 ((Stp.c (f (Int.toNat (↑(x8.1):Int)))).1 - (1:Int))<(↑(8):Int)) (.sc (true) 28 ([AV.isl (1) (9) fun (r k:Nat)=>atL (List.getD [[AV.ifc (9) (AV.str (bs (List.getD stepW (Int.toNat (IntKind.wrap IntKind.i64 ((Stp.c (f (Int.toNat (↑(x8.1):Int)))).1 - (1:Int)))) [])))],[AV.ifc (9) (AV.str { data := #[(32:UInt8)] })],[AV.ifc (3) (Zi (Stp.c (f (Int.toNat (↑(x8.1):Int)))).2)],[AV.ifc (9) (AV.str { data := #[(32:UInt8)] })],[AV.ifc (3) (Zi (Stp.c (f (Int.toNat (↑(x8.1):Int)))).3)],[AV.ifc (9) (AV.str { data := #[(32:UInt8)] })],[AV.ifc (3) (Zi (Stp.c (f (Int.toNat (↑(x8.1):Int)))).4)],[AV.ifc (9) (AV.str { data := #[(58:UInt8),(32:UInt8)] })],[AV.ifc (9) (AV.str ({ data := #[(101:UInt8),(114:UInt8),(114:UInt8),(111:UInt8),(114:UInt8),(32:UInt8)] }++bs (itoa (f (Int.toNat (↑(x8.1):Int))).2)))]] (r+0) []) k]) (AV.str (bs (preS (f (Int.toNat (↑(x8.1):Int))))++({ data := #[(101:UInt8),(114:UInt8),(114:UInt8),(111:UInt8),(114:UInt8),(32:UInt8)] }++bs (itoa (f (Int.toNat (↑(x8.1):Int))).2))++{ data := #[(10:UInt8)] })) (.req (ByteArray.size (bs (stpsF f x8.1))+ByteArray.size (bs (preS (f (Int.toNat (↑x8.1:Int))))++({ data := #[(101:UInt8),(114:UInt8),(114:UInt8),(111:UInt8),(114:UInt8),(32:UInt8)] }++bs (itoa (f (Int.toNat (↑(x8.1):Int))).2))++{ data := #[(10:UInt8)] })≤9223372036854775807) (.again (Again (0) (fun (x:{ x:Nat // x≤n })=>mkSt [46,47,6,48] [AV.isl (8) n fun (i j:Nat)=>atL (Stp.cells (f i)) j,Zi (↑n:Int),AV.str (bs (stpsF f (x.1))),Zi (↑(x.1):Int)] []) (fun (x:{ x:Nat // x≤n })=>n - x.1) x8) ([46,47,6,48]) ([]) ([AV.isl (8) n fun (i j:Nat)=>atL (Stp.cells (f i)) j,Zi (↑n:Int),AV.str (bs (stpsF f x8.1)++(bs (preS (f (Int.toNat (↑x8.1:Int))))++({ data := #[(101:UInt8),(114:UInt8),(114:UInt8),(111:UInt8),(114:UInt8),(32:UInt8)] }++bs (itoa (f (Int.toNat (↑(x8.1):Int))).2))++{ data := #[(10:UInt8)] })),Zi (IntKind.wrap IntKind.i64 ((↑x8.1:Int)+(1:Int)))]) ([])))))))) (.br (decide ((↑(f (Int.toNat (↑(x8.1):Int))).4:Int)>(0:Int))) (.sc (true) 34 ([AV.isl (1) (f (Int.toNat (↑(x8.1):Int))).4 fun (i x:Nat)=>Zi ((f (Int.toNat (↑(x8.1):Int))).5 i)]) (AV.str (bs (cmL (Stp.key (f (Int.toNat (↑(x8.1):Int)))) (Stp.n (f (Int.toNat (↑(x8.1):Int))))))) (.req (8+ByteArray.size (bs (cmL (f (Int.toNat (↑(x8.1):Int))).5 (f (Int.toNat (↑(x8.1):Int))).4))≤9223372036854775807) (.req (ByteArray.size (bs (itoa (f (Int.toNat (↑(x8.1):Int))).3))+ByteArray.size ({ data := #[(32:UInt8),(103:UInt8),(117:UInt8),(105:UInt8),(108:UInt8),(116:UInt8),(121:UInt8),(32:UInt8)] }++bs (cmL (f (Int.toNat (↑(x8.1):Int))).5 (f (Int.toNat (↑(x8.1):Int))).4))≤9223372036854775807) (.req ((0:Int)≤IntKind.wrap IntKind.i64 ((Stp.c (f (Int.toNat (↑(x8.1):Int)))).1 - (1:Int))∧IntKind.wrap IntKind.i64 ((Stp.c (f (Int.toNat (↑(x8.1):Int)))).1 - (1:Int))<(↑(8):Int)) (.sc (true) 28 ([AV.isl (1) (9) fun (r k:Nat)=>atL (List.getD [[AV.ifc (9) (AV.str (bs (List.getD stepW (Int.toNat (IntKind.wrap IntKind.i64 ((Stp.c (f (Int.toNat (↑(x8.1):Int)))).1 - (1:Int)))) [])))],[AV.ifc (9) (AV.str { data := #[(32:UInt8)] })],[AV.ifc (3) (Zi (Stp.c (f (Int.toNat (↑(x8.1):Int)))).2)],[AV.ifc (9) (AV.str { data := #[(32:UInt8)] })],[AV.ifc (3) (Zi (Stp.c (f (Int.toNat (↑(x8.1):Int)))).3)],[AV.ifc (9) (AV.str { data := #[(32:UInt8)] })],[AV.ifc (3) (Zi (Stp.c (f (Int.toNat (↑(x8.1):Int)))).4)],[AV.ifc (9) (AV.str { data := #[(58:UInt8),(32:UInt8)] })],[AV.ifc (9) (AV.str (bs (itoa (f (Int.toNat (↑(x8.1):Int))).3)++({ data := #[(32:UInt8),(103:UInt8),(117:UInt8),(105:UInt8),(108:UInt8),(116:UInt8),(121:UInt8),(32:UInt8)] }++bs (cmL (f (Int.toNat (↑(x8.1):Int))).5 (f (Int.toNat (↑(x8.1):Int))).4))))]] (r+0) []) k]) (AV.str (bs (preS (f (Int.toNat (↑(x8.1):Int))))++(bs (itoa (f (Int.toNat (↑(x8.1):Int))).3)++({ data := #[(32:UInt8),(103:UInt8),(117:UInt8),(105:UInt8),(108:UInt8),(116:UInt8),(121:UInt8),(32:UInt8)] }++bs (cmL (f (Int.toNat (↑(x8.1):Int))).5 (f (Int.toNat (↑(x8.1):Int))).4)))++{ data := #[(10:UInt8)] })) (.req (ByteArray.size (bs (stpsF f x8.1))+ByteArray.size (bs (preS (f (Int.toNat (↑x8.1:Int))))++(bs (itoa (f (Int.toNat (↑(x8.1):Int))).3)++({ data := #[(32:UInt8),(103:UInt8),(117:UInt8),(105:UInt8),(108:UInt8),(116:UInt8),(121:UInt8),(32:UInt8)] }++bs (cmL (f (Int.toNat (↑(x8.1):Int))).5 (f (Int.toNat (↑(x8.1):Int))).4)))++{ data := #[(10:UInt8)] })≤9223372036854775807) (.again (Again (0) (fun (x:{ x:Nat // x≤n })=>mkSt [46,47,6,48] [AV.isl (8) n fun (i j:Nat)=>atL (Stp.cells (f i)) j,Zi (↑n:Int),AV.str (bs (stpsF f (x.1))),Zi (↑(x.1):Int)] []) (fun (x:{ x:Nat // x≤n })=>n - x.1) x8) ([46,47,6,48]) ([]) ([AV.isl (8) n fun (i j:Nat)=>atL (Stp.cells (f i)) j,Zi (↑n:Int),AV.str (bs (stpsF f x8.1)++(bs (preS (f (Int.toNat (↑x8.1:Int))))++(bs (itoa (f (Int.toNat (↑(x8.1):Int))).3)++({ data := #[(32:UInt8),(103:UInt8),(117:UInt8),(105:UInt8),(108:UInt8),(116:UInt8),(121:UInt8),(32:UInt8)] }++bs (cmL (f (Int.toNat (↑(x8.1):Int))).5 (f (Int.toNat (↑(x8.1):Int))).4)))++{ data := #[(10:UInt8)] })),Zi (IntKind.wrap IntKind.i64 ((↑x8.1:Int)+(1:Int)))]) ([])))))))) (.req ((0:Int)≤IntKind.wrap IntKind.i64 ((Stp.c (f (Int.toNat (↑(x8.1):Int)))).1 - (1:Int))∧IntKind.wrap IntKind.i64 ((Stp.c (f (Int.toNat (↑(x8.1):Int)))).1 - (1:Int))<(↑(8):Int)) (.sc (true) 28 ([AV.isl (1) (9) fun (r k:Nat)=>atL (List.getD [[AV.ifc (9) (AV.str (bs (List.getD stepW (Int.toNat (IntKind.wrap IntKind.i64 ((Stp.c (f (Int.toNat (↑(x8.1):Int)))).1 - (1:Int)))) [])))],[AV.ifc (9) (AV.str { data := #[(32:UInt8)] })],[AV.ifc (3) (Zi (Stp.c (f (Int.toNat (↑(x8.1):Int)))).2)],[AV.ifc (9) (AV.str { data := #[(32:UInt8)] })],[AV.ifc (3) (Zi (Stp.c (f (Int.toNat (↑(x8.1):Int)))).3)],[AV.ifc (9) (AV.str { data := #[(32:UInt8)] })],[AV.ifc (3) (Zi (Stp.c (f (Int.toNat (↑(x8.1):Int)))).4)],[AV.ifc (9) (AV.str { data := #[(58:UInt8),(32:UInt8)] })],[AV.ifc (9) (AV.str (bs (itoa (f (Int.toNat (↑(x8.1):Int))).3)))]] (r+0) []) k]) (AV.str (bs (preS (f (Int.toNat (↑(x8.1):Int))))++bs (itoa (f (Int.toNat (↑(x8.1):Int))).3)++{ data := #[(10:UInt8)] })) (.req (ByteArray.size (bs (stpsF f x8.1))+ByteArray.size (bs (preS (f (Int.toNat (↑x8.1:Int))))++bs (itoa (f (Int.toNat (↑(x8.1):Int))).3)++{ data := #[(10:UInt8)] })≤9223372036854775807) (.again (Again (0) (fun (x:{ x:Nat // x≤n })=>mkSt [46,47,6,48] [AV.isl (8) n fun (i j:Nat)=>atL (Stp.cells (f i)) j,Zi (↑n:Int),AV.str (bs (stpsF f (x.1))),Zi (↑(x.1):Int)] []) (fun (x:{ x:Nat // x≤n })=>n - x.1) x8) ([46,47,6,48]) ([]) ([AV.isl (8) n fun (i j:Nat)=>atL (Stp.cells (f i)) j,Zi (↑n:Int),AV.str (bs (stpsF f x8.1)++(bs (preS (f (Int.toNat (↑x8.1:Int))))++bs (itoa (f (Int.toNat (↑(x8.1):Int))).3)++{ data := #[(10:UInt8)] })),Zi (IntKind.wrap IntKind.i64 ((↑x8.1:Int)+(1:Int)))]) ([]))))))))) (.out (AV.tup [AV.str (bs (stpsF f x8.1)),Zi 0]) [] (AV.tup [AV.str (bs (stepsV n f)),Zi (stepsE n f)]) []))))))))
  (by kernel_rfl) ?_
 refine k_br (fun h0=>?_) (fun h0=>?_)
 ·have g0:=cnd_dec_t h0
  exact k_out ((by exfalso;omega))
 ·have g0:=cnd_dec_f h0
  refine k_loop (fun _ hs=>hs.le (by repeat' (first|exact trivial|exact Ent.refl _|exact Ent.of_eq (congrArg AV.str (stp_app (res_1 g12 g15)))|exact Ent.of_eq (congrArg AV.str (stp_app (res_2 g12 g15)))|exact Ent.of_eq (congrArg AV.str (stp_app (res_3 g12 g27)))|exact Ent.of_eq (congrArg AV.str (stp_app (res_4 g12 g27)))|exact inc_ent (by omega)|exact Ent.of_eq (congrArg (AV.int _) (by first|omega|(dsimp only;omega)))|refine And.intro ?_ ?_)) (trivial)) (fun x2=>?_)
  try (have q2:=x2.2;dsimp only at q2)
  refine k_br (fun h3=>?_) (fun h3=>?_)
  ·have g3:=cnd_dec_t h3
   refine k_req (by first|omega|(have z:=F1 (by omega);have z1:=z.k;have z2:=z.a;have z3:=z.e;have z4:=z.l;have z5:=z.p;have z6:=z.x;simp only [Int.toNat_natCast,ByteArray.size_append,bs_size,zLn,List.length_cons,List.length_nil];first|omega|(rw [wI (by omega) (by omega)];omega))) ?_
   refine k_br (fun h5=>?_) (fun h5=>?_)
   ·have g5:=(cnd_or_t (cnd_or_t (cnd_or_t (cnd_or_t cnd_dec_t cnd_dec_t) cnd_dec_t) cnd_dec_t) cnd_dec_t) h5
    try simp only [Int.toNat_natCast] at g5
    exact k_out ((by have q:=L1 x2.1 (by omega) (stpOk_f g5);rw [q.1,q.2];exact Ent.refl _))
   ·have g5:=(cnd_or_f (cnd_or_f (cnd_or_f (cnd_or_f cnd_dec_f cnd_dec_f) cnd_dec_f) cnd_dec_f) cnd_dec_f) h5
    try simp only [Int.toNat_natCast] at g5
    exact k_again (⟨x2.1+1,by omega,fun j hj=>by rcases Nat.lt_succ_iff_lt_or_eq.1 hj with hj|rfl;(· exact x2.2.2 j hj);(· exact stpOk_t g5)⟩) (fun _ hs=>hs.le (by repeat' (first|exact trivial|exact Ent.refl _|exact Ent.of_eq (congrArg AV.str (stp_app (res_1 g12 g15)))|exact Ent.of_eq (congrArg AV.str (stp_app (res_2 g12 g15)))|exact Ent.of_eq (congrArg AV.str (stp_app (res_3 g12 g27)))|exact Ent.of_eq (congrArg AV.str (stp_app (res_4 g12 g27)))|exact inc_ent (by omega)|exact Ent.of_eq (congrArg (AV.int _) (by first|omega|(dsimp only;omega)))|refine And.intro ?_ ?_)) (trivial)) (by dsimp only;omega)
  ·have g3:=cnd_dec_f h3
   refine k_loop (fun _ hs=>hs.le (by repeat' (first|exact trivial|exact Ent.refl _|exact Ent.of_eq (congrArg AV.str (stp_app (res_1 g12 g15)))|exact Ent.of_eq (congrArg AV.str (stp_app (res_2 g12 g15)))|exact Ent.of_eq (congrArg AV.str (stp_app (res_3 g12 g27)))|exact Ent.of_eq (congrArg AV.str (stp_app (res_4 g12 g27)))|exact inc_ent (by omega)|exact Ent.of_eq (congrArg (AV.int _) (by first|omega|(dsimp only;omega)))|refine And.intro ?_ ?_)) (trivial)) (fun x8=>?_)
   try (have q8:=x8.2;dsimp only at q8)
   have KK:∀ j,j<n→stpOk (f j)=true:=fun j hj=>x2.2.2 j (by omega);have F1:=fun (h:x8.1<n)=>stpF_of hn hR KK h
   refine k_br (fun h9=>?_) (fun h9=>?_)
   ·have g9:=cnd_dec_t h9
    refine k_req (by first|omega|(have z:=F1 (by omega);have z1:=z.k;have z2:=z.a;have z3:=z.e;have z4:=z.l;have z5:=z.p;have z6:=z.x;simp only [Int.toNat_natCast,ByteArray.size_append,bs_size,zLn,List.length_cons,List.length_nil];first|omega|(rw [wI (by omega) (by omega)];omega))) ?_
    refine k_sc (c1 (Int.toNat (↑(x8.1):Int)) (by first|assumption|omega|(have z:=F1 (by omega);have z1:=z.k;have z2:=z.a;have z3:=z.e;have z4:=z.l;simp only [Int.toNat_natCast,ByteArray.size_append,bs_size,zLn,List.length_cons,List.length_nil];first|omega|exact ⟨by omega,by omega⟩))) ?_
    refine k_br (fun h12=>?_) (fun h12=>?_)
    ·have g12:=cnd_bne_t h12
     try simp only [Int.toNat_natCast] at g12
     refine k_sc (c2 (Int.toNat (↑(x8.1):Int)) (by first|assumption|omega|(have z:=F1 (by omega);have z1:=z.k;have z2:=z.a;have z3:=z.e;have z4:=z.l;simp only [Int.toNat_natCast];first|omega|exact ⟨by omega,by omega⟩))) ?_
     refine k_req (by first|omega|(have z:=F1 (by omega);have z1:=z.k;have z2:=z.a;have z3:=z.e;have z4:=z.l;have z5:=z.p;have z6:=z.x;simp only [Int.toNat_natCast,bs_size];first|omega|(rw [wI (by omega) (by omega)];omega))) ?_
     refine k_br (fun h15=>?_) (fun h15=>?_)
     ·have g15:=cnd_dec_t h15
      try simp only [Int.toNat_natCast] at g15
      refine k_sc (c3 (Int.toNat (↑(x8.1):Int)) (by first|assumption|omega|(have z:=F1 (by omega);have z1:=z.k;have z2:=z.a;have z3:=z.e;have z4:=z.l;simp only [Int.toNat_natCast,ByteArray.size_append,bs_size,zLn,List.length_cons,List.length_nil];first|omega|exact ⟨by omega,by omega⟩)) (by first|assumption|omega|(have z:=F1 (by omega);have z1:=z.k;have z2:=z.a;have z3:=z.e;have z4:=z.l;simp only [Int.toNat_natCast];first|omega|exact ⟨by omega,by omega⟩))) ?_
      refine k_req (by first|omega|(have z:=F1 (by omega);have z1:=z.k;have z2:=z.a;have z3:=z.e;have z4:=z.l;have z5:=z.p;have z6:=z.x;simp only [Int.toNat_natCast,bs_size];first|omega|(rw [wI (by omega) (by omega)];omega))) ?_
      refine k_req (by first|omega|(have z:=F1 (by omega);have z1:=z.k;have z2:=z.a;have z3:=z.e;have z4:=z.l;have z5:=z.p;have z6:=z.x;simp only [Int.toNat_natCast,ByteArray.size_append,bs_size,List.length_cons,List.length_nil];first|omega|(rw [wI (by omega) (by omega)];omega))) ?_
      refine k_req (by first|omega|(have z:=F1 (by omega);have z1:=z.k;have z2:=z.a;have z3:=z.e;have z4:=z.l;have z5:=z.p;have z6:=z.x;simp only [Int.toNat_natCast];first|omega|(rw [wI (by omega) (by omega)];omega))) ?_
      refine k_sc (c4 (Int.toNat (↑(x8.1):Int)) (by first|assumption|omega|(have z:=F1 (by omega);have z1:=z.k;have z2:=z.a;have z3:=z.e;have z4:=z.l;simp only [Int.toNat_natCast,ByteArray.size_append,bs_size,zLn,List.length_cons,List.length_nil];first|omega|exact ⟨by omega,by omega⟩)) (by first|assumption|omega|(have z:=F1 (by omega);have z1:=z.k;have z2:=z.a;have z3:=z.e;have z4:=z.l;simp only [Int.toNat_natCast];first|omega|exact ⟨by omega,by omega⟩)) ({ data := #[(101:UInt8),(114:UInt8),(114:UInt8),(111:UInt8),(114:UInt8),(32:UInt8)] }++bs (itoa (f (Int.toNat (↑(x8.1):Int))).2)++({ data := #[(32:UInt8),(103:UInt8),(117:UInt8),(105:UInt8),(108:UInt8),(116:UInt8),(121:UInt8),(32:UInt8)] }++bs (cmL (f (Int.toNat (↑(x8.1):Int))).5 (f (Int.toNat (↑(x8.1):Int))).4))) (by first|assumption|omega|(have z:=F1 (by omega);have z1:=z.k;have z2:=z.a;have z3:=z.e;have z4:=z.l;simp only [Int.toNat_natCast,ByteArray.size_append,bs_size,List.length_cons,List.length_nil];first|omega|exact ⟨by omega,by omega⟩))) ?_
      refine k_req (by first|omega|(have z:=F1 (by omega);have z1:=z.k;have z2:=z.a;have z3:=z.e;have z4:=z.l;have z5:=z.p;have z6:=z.x;simp only [Int.toNat_natCast,ByteArray.size_append,bs_size,List.length_cons,List.length_nil];first|omega|(rw [wI (by omega) (by omega)];omega))) ?_
      exact k_again (⟨x8.1+1,by omega⟩) (fun _ hs=>hs.le (by repeat' (first|exact trivial|exact Ent.refl _|exact Ent.of_eq (congrArg AV.str (stp_app (res_1 g12 g15)))|exact Ent.of_eq (congrArg AV.str (stp_app (res_2 g12 g15)))|exact Ent.of_eq (congrArg AV.str (stp_app (res_3 g12 g27)))|exact Ent.of_eq (congrArg AV.str (stp_app (res_4 g12 g27)))|exact inc_ent (by omega)|exact Ent.of_eq (congrArg (AV.int _) (by first|omega|(dsimp only;omega)))|refine And.intro ?_ ?_)) (trivial)) (by dsimp only;omega)
     ·have g15:=cnd_dec_f h15
      try simp only [Int.toNat_natCast] at g15
      refine k_req (by first|omega|(have z:=F1 (by omega);have z1:=z.k;have z2:=z.a;have z3:=z.e;have z4:=z.l;have z5:=z.p;have z6:=z.x;simp only [Int.toNat_natCast];first|omega|(rw [wI (by omega) (by omega)];omega))) ?_
      refine k_sc (c4 (Int.toNat (↑(x8.1):Int)) (by first|assumption|omega|(have z:=F1 (by omega);have z1:=z.k;have z2:=z.a;have z3:=z.e;have z4:=z.l;simp only [Int.toNat_natCast,ByteArray.size_append,bs_size,zLn,List.length_cons,List.length_nil];first|omega|exact ⟨by omega,by omega⟩)) (by first|assumption|omega|(have z:=F1 (by omega);have z1:=z.k;have z2:=z.a;have z3:=z.e;have z4:=z.l;simp only [Int.toNat_natCast];first|omega|exact ⟨by omega,by omega⟩)) ({ data := #[(101:UInt8),(114:UInt8),(114:UInt8),(111:UInt8),(114:UInt8),(32:UInt8)] }++bs (itoa (f (Int.toNat (↑(x8.1):Int))).2)) (by first|assumption|omega|(have z:=F1 (by omega);have z1:=z.k;have z2:=z.a;have z3:=z.e;have z4:=z.l;simp only [Int.toNat_natCast,ByteArray.size_append,bs_size,List.length_cons,List.length_nil];first|omega|exact ⟨by omega,by omega⟩))) ?_
      refine k_req (by first|omega|(have z:=F1 (by omega);have z1:=z.k;have z2:=z.a;have z3:=z.e;have z4:=z.l;have z5:=z.p;have z6:=z.x;simp only [Int.toNat_natCast,ByteArray.size_append,bs_size,List.length_cons,List.length_nil];first|omega|(rw [wI (by omega) (by omega)];omega))) ?_
      exact k_again (⟨x8.1+1,by omega⟩) (fun _ hs=>hs.le (by repeat' (first|exact trivial|exact Ent.refl _|exact Ent.of_eq (congrArg AV.str (stp_app (res_1 g12 g15)))|exact Ent.of_eq (congrArg AV.str (stp_app (res_2 g12 g15)))|exact Ent.of_eq (congrArg AV.str (stp_app (res_3 g12 g27)))|exact Ent.of_eq (congrArg AV.str (stp_app (res_4 g12 g27)))|exact inc_ent (by omega)|exact Ent.of_eq (congrArg (AV.int _) (by first|omega|(dsimp only;omega)))|refine And.intro ?_ ?_)) (trivial)) (by dsimp only;omega)
    ·have g12:=cnd_bne_f h12
     try simp only [Int.toNat_natCast] at g12
     refine k_br (fun h27=>?_) (fun h27=>?_)
     ·have g27:=cnd_dec_t h27
      try simp only [Int.toNat_natCast] at g27
      refine k_sc (c3 (Int.toNat (↑(x8.1):Int)) (by first|assumption|omega|(have z:=F1 (by omega);have z1:=z.k;have z2:=z.a;have z3:=z.e;have z4:=z.l;simp only [Int.toNat_natCast,ByteArray.size_append,bs_size,zLn,List.length_cons,List.length_nil];first|omega|exact ⟨by omega,by omega⟩)) (by first|assumption|omega|(have z:=F1 (by omega);have z1:=z.k;have z2:=z.a;have z3:=z.e;have z4:=z.l;simp only [Int.toNat_natCast];first|omega|exact ⟨by omega,by omega⟩))) ?_
      refine k_req (by first|omega|(have z:=F1 (by omega);have z1:=z.k;have z2:=z.a;have z3:=z.e;have z4:=z.l;have z5:=z.p;have z6:=z.x;simp only [Int.toNat_natCast,bs_size];first|omega|(rw [wI (by omega) (by omega)];omega))) ?_
      refine k_req (by first|omega|(have z:=F1 (by omega);have z1:=z.k;have z2:=z.a;have z3:=z.e;have z4:=z.l;have z5:=z.p;have z6:=z.x;simp only [Int.toNat_natCast,ByteArray.size_append,bs_size,List.length_cons,List.length_nil];first|omega|(rw [wI (by omega) (by omega)];omega))) ?_
      refine k_req (by first|omega|(have z:=F1 (by omega);have z1:=z.k;have z2:=z.a;have z3:=z.e;have z4:=z.l;have z5:=z.p;have z6:=z.x;simp only [Int.toNat_natCast];first|omega|(rw [wI (by omega) (by omega)];omega))) ?_
      refine k_sc (c4 (Int.toNat (↑(x8.1):Int)) (by first|assumption|omega|(have z:=F1 (by omega);have z1:=z.k;have z2:=z.a;have z3:=z.e;have z4:=z.l;simp only [Int.toNat_natCast,ByteArray.size_append,bs_size,zLn,List.length_cons,List.length_nil];first|omega|exact ⟨by omega,by omega⟩)) (by first|assumption|omega|(have z:=F1 (by omega);have z1:=z.k;have z2:=z.a;have z3:=z.e;have z4:=z.l;simp only [Int.toNat_natCast];first|omega|exact ⟨by omega,by omega⟩)) (bs (itoa (f (Int.toNat (↑(x8.1):Int))).3)++({ data := #[(32:UInt8),(103:UInt8),(117:UInt8),(105:UInt8),(108:UInt8),(116:UInt8),(121:UInt8),(32:UInt8)] }++bs (cmL (f (Int.toNat (↑(x8.1):Int))).5 (f (Int.toNat (↑(x8.1):Int))).4))) (by first|assumption|omega|(have z:=F1 (by omega);have z1:=z.k;have z2:=z.a;have z3:=z.e;have z4:=z.l;simp only [Int.toNat_natCast,ByteArray.size_append,bs_size,List.length_cons,List.length_nil];first|omega|exact ⟨by omega,by omega⟩))) ?_
      refine k_req (by first|omega|(have z:=F1 (by omega);have z1:=z.k;have z2:=z.a;have z3:=z.e;have z4:=z.l;have z5:=z.p;have z6:=z.x;simp only [Int.toNat_natCast,ByteArray.size_append,bs_size,List.length_cons,List.length_nil];first|omega|(rw [wI (by omega) (by omega)];omega))) ?_
      exact k_again (⟨x8.1+1,by omega⟩) (fun _ hs=>hs.le (by repeat' (first|exact trivial|exact Ent.refl _|exact Ent.of_eq (congrArg AV.str (stp_app (res_1 g12 g15)))|exact Ent.of_eq (congrArg AV.str (stp_app (res_2 g12 g15)))|exact Ent.of_eq (congrArg AV.str (stp_app (res_3 g12 g27)))|exact Ent.of_eq (congrArg AV.str (stp_app (res_4 g12 g27)))|exact inc_ent (by omega)|exact Ent.of_eq (congrArg (AV.int _) (by first|omega|(dsimp only;omega)))|refine And.intro ?_ ?_)) (trivial)) (by dsimp only;omega)
     ·have g27:=cnd_dec_f h27
      try simp only [Int.toNat_natCast] at g27
      refine k_req (by first|omega|(have z:=F1 (by omega);have z1:=z.k;have z2:=z.a;have z3:=z.e;have z4:=z.l;have z5:=z.p;have z6:=z.x;simp only [Int.toNat_natCast];first|omega|(rw [wI (by omega) (by omega)];omega))) ?_
      refine k_sc (c4 (Int.toNat (↑(x8.1):Int)) (by first|assumption|omega|(have z:=F1 (by omega);have z1:=z.k;have z2:=z.a;have z3:=z.e;have z4:=z.l;simp only [Int.toNat_natCast,ByteArray.size_append,bs_size,zLn,List.length_cons,List.length_nil];first|omega|exact ⟨by omega,by omega⟩)) (by first|assumption|omega|(have z:=F1 (by omega);have z1:=z.k;have z2:=z.a;have z3:=z.e;have z4:=z.l;simp only [Int.toNat_natCast];first|omega|exact ⟨by omega,by omega⟩)) (bs (itoa (f (Int.toNat (↑(x8.1):Int))).3)) (by first|assumption|omega|(have z:=F1 (by omega);have z1:=z.k;have z2:=z.a;have z3:=z.e;have z4:=z.l;simp only [Int.toNat_natCast,bs_size];first|omega|exact ⟨by omega,by omega⟩))) ?_
      refine k_req (by first|omega|(have z:=F1 (by omega);have z1:=z.k;have z2:=z.a;have z3:=z.e;have z4:=z.l;have z5:=z.p;have z6:=z.x;simp only [Int.toNat_natCast,ByteArray.size_append,bs_size,List.length_cons,List.length_nil];first|omega|(rw [wI (by omega) (by omega)];omega))) ?_
      exact k_again (⟨x8.1+1,by omega⟩) (fun _ hs=>hs.le (by repeat' (first|exact trivial|exact Ent.refl _|exact Ent.of_eq (congrArg AV.str (stp_app (res_1 g12 g15)))|exact Ent.of_eq (congrArg AV.str (stp_app (res_2 g12 g15)))|exact Ent.of_eq (congrArg AV.str (stp_app (res_3 g12 g27)))|exact Ent.of_eq (congrArg AV.str (stp_app (res_4 g12 g27)))|exact inc_ent (by omega)|exact Ent.of_eq (congrArg (AV.int _) (by first|omega|(dsimp only;omega)))|refine And.intro ?_ ?_)) (trivial)) (by dsimp only;omega)
   ·have g9:=cnd_dec_f h9
    exact k_out ((by have e:x8.1=n:=(by omega);have q:=L0 KK;rw [q.1,q.2,e];exact Ent.refl _))
theorem rstp_1 {f:Nat→Stp} {k:Nat} (h:¬(f k).er=0) (h':((f k).n:Int)>0):bs (stpsF f k)++bs (stepK.getD ((f k).c.kind - 1).toNat [])++⟨#[32]⟩++bs (itoa (f k).c.who)++⟨#[32]⟩++bs (itoa (f k).c.whom)++⟨#[32]⟩++bs (itoa (f k).c.amount)++⟨#[58,32]⟩++⟨#[101,114,114,111,114,32]⟩++bs (itoa (f k).er)++⟨#[32,103,117,105,108,116,121,32]⟩++bs (cmL (f k).key (f k).n)++⟨#[10]⟩=bs (stpsF f (k+1)):=by
 show bs _++bs _++bs [32]++bs _++bs [32]++bs _++bs [32]++bs _++bs [58,32]++bs [101,114,114,111,114,32]++bs _++bs [32,103,117,105,108,116,121,32]++bs _++bs [10]=_
 simp only [bs_app]
 rw [stpsF,stpS,preS,resS,if_neg h,if_pos (by omega)]
 simp only [List.append_assoc]
theorem rstp_2 {f:Nat→Stp} {k:Nat} (h:¬(f k).er=0) (h':¬((f k).n:Int)>0):bs (stpsF f k)++bs (stepK.getD ((f k).c.kind - 1).toNat [])++⟨#[32]⟩++bs (itoa (f k).c.who)++⟨#[32]⟩++bs (itoa (f k).c.whom)++⟨#[32]⟩++bs (itoa (f k).c.amount)++⟨#[58,32]⟩++⟨#[101,114,114,111,114,32]⟩++bs (itoa (f k).er)++⟨#[10]⟩=bs (stpsF f (k+1)):=by
 show bs _++bs _++bs [32]++bs _++bs [32]++bs _++bs [32]++bs _++bs [58,32]++bs [101,114,114,111,114,32]++bs _++bs [10]=_
 simp only [bs_app]
 rw [stpsF,stpS,preS,resS,if_neg h,if_neg (by omega)]
 simp only [List.append_assoc,List.append_nil]
theorem rstp_3 {f:Nat→Stp} {k:Nat} (h:(f k).er=0) (h':((f k).n:Int)>0):bs (stpsF f k)++bs (stepK.getD ((f k).c.kind - 1).toNat [])++⟨#[32]⟩++bs (itoa (f k).c.who)++⟨#[32]⟩++bs (itoa (f k).c.whom)++⟨#[32]⟩++bs (itoa (f k).c.amount)++⟨#[58,32]⟩++bs (itoa (f k).amt)++⟨#[32,103,117,105,108,116,121,32]⟩++bs (cmL (f k).key (f k).n)++⟨#[10]⟩=bs (stpsF f (k+1)):=by
 show bs _++bs _++bs [32]++bs _++bs [32]++bs _++bs [32]++bs _++bs [58,32]++bs _++bs [32,103,117,105,108,116,121,32]++bs _++bs [10]=_
 simp only [bs_app]
 rw [stpsF,stpS,preS,resS,if_pos h,if_pos (by omega)]
 simp only [List.append_assoc]
theorem rstp_4 {f:Nat→Stp} {k:Nat} (h:(f k).er=0) (h':¬((f k).n:Int)>0):bs (stpsF f k)++bs (stepK.getD ((f k).c.kind - 1).toNat [])++⟨#[32]⟩++bs (itoa (f k).c.who)++⟨#[32]⟩++bs (itoa (f k).c.whom)++⟨#[32]⟩++bs (itoa (f k).c.amount)++⟨#[58,32]⟩++bs (itoa (f k).amt)++⟨#[10]⟩=bs (stpsF f (k+1)):=by
 show bs _++bs _++bs [32]++bs _++bs [32]++bs _++bs [32]++bs _++bs [58,32]++bs _++bs [10]=_
 simp only [bs_app]
 rw [stpsF,stpS,preS,resS,if_pos h,if_neg (by omega)]
 simp only [List.append_assoc,List.append_nil]
theorem rlistp_c (m:GP) (f:Nat→Int) (n:Nat) (hn:n≤200) (h0:(n:Int)>0) (hf:∀ i,i<n → -9223372036854775808≤f i∧f i≤9223372036854775807):Pure Tryz.prog (gl0 m) 42 [.isl 1 n fun i _=>.int .i64 (f i),.str (bs [])] (.str (bs (cmL f n))):=by
 have c:=rlist_c m f n [] hn hf
 rw [cmW,if_neg (by omega)] at c
 exact c
theorem stpZ_in {f:Nat→Stp} {n k:Nat} (hn:n≤40) (hR:∀ i,i<n→(f i).R) (KK:∀ j,j<k→stpOk (f j)=true) (hk:k<n) (h:stpOk (f k)=true):(f k).n≤100∧(itoa (f k).amt).length≤20∧(itoa (f k).er).length≤20∧(cmL (f k).key (f k).n).length≤22*(f k).n∧(stpsF f k).length≤100000∧(itoa (f k).c.who).length≤20∧(itoa (f k).c.whom).length≤20∧(itoa (f k).c.amount).length≤20∧(stepW.getD ((f k).c.kind - 1).toNat []).length≤8:=by
 have F:=stpF_in hn hR KK hk h
 exact ⟨F.k.2.2.2.2,F.a,F.e,F.l,F.x,itoa_l20 (hR k hk).who,itoa_l20 (hR k hk).whom,itoa_l20 (hR k hk).amount,stepK_le _⟩
set_option maxHeartbeats 4000000 in
theorem rsteps_c (m:GP) (f:Nat→Stp) (n:Nat) (hn:n≤40) (hR:∀ i,i<n→(f i).R):Pure Tryz.prog (gl0 m) 15 [stpA n f] (.tup [.str (bs (stepsV n f)),.int .i64 (stepsE n f)]):=by
 have L1:=fun i (hi:i<n) (hb:stpOk (f i)=false)=>steps_1 (f:=f) (show ¬1000<n by omega) hi hb
 have L0:=fun hb=>steps_0 (f:=f) (show ¬1000<n by omega) hb
 have c0:=fun i (h:1≤(f i).c.kind∧(f i).c.kind≤8)=>rword_c m (f i).c.kind h
 have c1:=fun i (hi:i<n)=>sgn_c m (f i).c.who (hR i hi).who
 have c2:=fun i (hi:i<n)=>sgn_c m (f i).c.whom (hR i hi).whom
 have c3:=fun i (hi:i<n)=>sgn_c m (f i).c.amount (hR i hi).amount
 have c4:=fun i (hi:i<n)=>sgn_c m (f i).amt (hR i hi).amt
 have c5:=fun i (h:0≤(f i).er∧(f i).er≤9223372036854775807)=>d56_p m (f i).er h
 have c6:=fun i (hi:i<n) (hk:(f i).n≤200) (h0:((f i).n:Int)>0)=>rlistp_c m (f i).key (f i).n hk h0 (hR i hi).key
 refine pure_sk (own:=ow0) Tryz.func15 (by kernel_rfl) mixed (by kernel_rfl)
  (.br (decide ((↑n:Int)>(1000:Int))) (.out (AV.tup [AV.str { data := #[] },Zi 5]) [] (AV.tup [AV.str (bs (stepsV n f)),Zi (stepsE n f)]) []) (.loop ({ x:Nat // x≤n∧(fun (x:Nat)=>∀ (j:Nat),j<x→stpOk (f j)=true) x }) (fun (x:{ x:Nat // x≤n∧(fun (x:Nat)=>∀ (j:Nat),j<x→stpOk (f j)=true) x })=>mkSt [0,4,5] [AV.isl (8) n fun (i j:Nat)=>atL (Stp.cells (f i)) j,AV.str (bs (stpsF f (x.1))),Zi (↑(x.1):Int)] []) (fun (x:{ x:Nat // x≤n∧(fun (x:Nat)=>∀ (j:Nat),j<x→stpOk (f j)=true) x })=>n - x.1) (⟨(0:Nat),⟨Nat.zero_le n,fun (j:Nat) (hj:j<(0:Nat))=>absurd hj (Nat.not_lt_zero j)⟩⟩) ([0,4,5]) ([]) ([AV.isl (8) n fun (i j:Nat)=>atL (Stp.cells (f i)) j,AV.str { data := #[] },Zi 0]) ([]) (fun x2=>(.br (decide ((↑x2.1:Int)<(↑n:Int))) (.req ((0:Int)≤(↑x2.1:Int)∧(↑x2.1:Int)<(↑n:Int)) (.br (decide ((Stp.c (f (Int.toNat (↑(x2.1):Int)))).1<(1:Int))||decide ((Stp.c (f (Int.toNat (↑(x2.1):Int)))).1>(8:Int))||decide ((f (Int.toNat (↑(x2.1):Int))).2<(0:Int))||decide ((f (Int.toNat (↑(x2.1):Int))).2>(20:Int))||decide ((↑(f (Int.toNat (↑(x2.1):Int))).4:Int)>(100:Int))) (.out (AV.tup [AV.str { data := #[] },Zi 1]) [] (AV.tup [AV.str (bs (stepsV n f)),Zi (stepsE n f)]) []) (.sc (true) 44 ([Zi (Stp.c (f (Int.toNat (↑(x2.1):Int)))).1]) (AV.str (bs (List.getD stepW (Int.toNat (Cmd.kind (Stp.c (f (Int.toNat (↑(x2.1):Int)))) - (1:Int))) []))) (.req (ByteArray.size (bs (stpsF f x2.1))+ByteArray.size (bs (List.getD stepW (Int.toNat ((Stp.c (f (Int.toNat (↑(x2.1):Int)))).1 - (1:Int))) []))≤9223372036854775807) (.req (ByteArray.size (bs (stpsF f x2.1)++bs (List.getD stepW (Int.toNat ((Stp.c (f (Int.toNat (↑(x2.1):Int)))).1 - (1:Int))) []))+1≤9223372036854775807) (.sc (true) 40 ([Zi (Stp.c (f (Int.toNat (↑(x2.1):Int)))).2]) (AV.str (bs (itoa (Cmd.who (Stp.c (f (Int.toNat (↑(x2.1):Int)))))))) (.req (ByteArray.size (bs (stpsF f x2.1)++bs (List.getD stepW (Int.toNat ((Stp.c (f (Int.toNat (↑(x2.1):Int)))).1 - (1:Int))) [])++{ data := #[(32:UInt8)] })+ByteArray.size (bs (itoa (Stp.c (f (Int.toNat (↑(x2.1):Int)))).2))≤9223372036854775807) (.req (ByteArray.size (bs (stpsF f x2.1)++bs (List.getD stepW (Int.toNat ((Stp.c (f (Int.toNat (↑(x2.1):Int)))).1 - (1:Int))) [])++{ data := #[(32:UInt8)] }++bs (itoa (Stp.c (f (Int.toNat (↑(x2.1):Int)))).2))+1≤9223372036854775807) (.sc (true) 40 ([Zi (Stp.c (f (Int.toNat (↑(x2.1):Int)))).3]) (AV.str (bs (itoa (Cmd.whom (Stp.c (f (Int.toNat (↑(x2.1):Int)))))))) (.req (ByteArray.size (bs (stpsF f x2.1)++bs (List.getD stepW (Int.toNat ((Stp.c (f (Int.toNat (↑(x2.1):Int)))).1 - (1:Int))) [])++{ data := #[(32:UInt8)] }++bs (itoa (Stp.c (f (Int.toNat (↑(x2.1):Int)))).2)++{ data := #[(32:UInt8)] })+ByteArray.size (bs (itoa (Stp.c (f (Int.toNat (↑(x2.1):Int)))).3))≤9223372036854775807) (.req (ByteArray.size (bs (stpsF f x2.1)++bs (List.getD stepW (Int.toNat ((Stp.c (f (Int.toNat (↑(x2.1):Int)))).1 - (1:Int))) [])++{ data := #[(32:UInt8)] }++bs (itoa (Stp.c (f (Int.toNat (↑(x2.1):Int)))).2)++{ data := #[(32:UInt8)] }++bs (itoa (Stp.c (f (Int.toNat (↑(x2.1):Int)))).3))+1≤9223372036854775807) (.sc (true) 40 ([Zi (Stp.c (f (Int.toNat (↑(x2.1):Int)))).4]) (AV.str (bs (itoa (Cmd.amount (Stp.c (f (Int.toNat (↑(x2.1):Int)))))))) (.req (ByteArray.size (bs (stpsF f x2.1)++bs (List.getD stepW (Int.toNat ((Stp.c (f (Int.toNat (↑(x2.1):Int)))).1 - (1:Int))) [])++{ data := #[(32:UInt8)] }++bs (itoa (Stp.c (f (Int.toNat (↑(x2.1):Int)))).2)++{ data := #[(32:UInt8)] }++bs (itoa (Stp.c (f (Int.toNat (↑(x2.1):Int)))).3)++{ data := #[(32:UInt8)] })+ByteArray.size (bs (itoa (Stp.c (f (Int.toNat (↑(x2.1):Int)))).4))≤9223372036854775807) (.req (ByteArray.size (bs (stpsF f x2.1)++bs (List.getD stepW (Int.toNat ((Stp.c (f (Int.toNat (↑(x2.1):Int)))).1 - (1:Int))) [])++{ data := #[(32:UInt8)] }++bs (itoa (Stp.c (f (Int.toNat (↑(x2.1):Int)))).2)++{ data := #[(32:UInt8)] }++bs (itoa (Stp.c (f (Int.toNat (↑(x2.1):Int)))).3)++{ data := #[(32:UInt8)] }++bs (itoa (Stp.c (f (Int.toNat (↑(x2.1):Int)))).4))+2≤9223372036854775807) (.br ((f (Int.toNat (↑(x2.1):Int))).2 != (0:Int)) (.req (ByteArray.size (bs (stpsF f x2.1)++bs (List.getD stepW (Int.toNat ((Stp.c (f (Int.toNat (↑(x2.1):Int)))).1 - (1:Int))) [])++{ data := #[(32:UInt8)] }++bs (itoa (Stp.c (f (Int.toNat (↑(x2.1):Int)))).2)++{ data := #[(32:UInt8)] }++bs (itoa (Stp.c (f (Int.toNat (↑(x2.1):Int)))).3)++{ data := #[(32:UInt8)] }++bs (itoa (Stp.c (f (Int.toNat (↑(x2.1):Int)))).4)++{ data := #[(58:UInt8),(32:UInt8)] })+6≤9223372036854775807) (.sc (true) 30 ([Zi (f (Int.toNat (↑(x2.1):Int))).2]) (AV.str (bs (itoa (Stp.er (f (Int.toNat (↑(x2.1):Int))))))) (.req (ByteArray.size (bs (stpsF f x2.1)++bs (List.getD stepW (Int.toNat ((Stp.c (f (Int.toNat (↑(x2.1):Int)))).1 - (1:Int))) [])++{ data := #[(32:UInt8)] }++bs (itoa (Stp.c (f (Int.toNat (↑(x2.1):Int)))).2)++{ data := #[(32:UInt8)] }++bs (itoa (Stp.c (f (Int.toNat (↑(x2.1):Int)))).3)++{ data := #[(32:UInt8)] }++bs (itoa (Stp.c (f (Int.toNat (↑(x2.1):Int)))).4)++{ data := #[(58:UInt8),(32:UInt8)] }++{ data := #[(101:UInt8),(114:UInt8),(114:UInt8),(111:UInt8),(114:UInt8),(32:UInt8)] })+ByteArray.size (bs (itoa (f (Int.toNat (↑(x2.1):Int))).2))≤9223372036854775807) (.br (decide ((↑(f (Int.toNat (↑(x2.1):Int))).4:Int)>(0:Int))) (.req (ByteArray.size (bs (stpsF f x2.1)++bs (List.getD stepW (Int.toNat ((Stp.c (f (Int.toNat (↑(x2.1):Int)))).1 - (1:Int))) [])++{ data := #[(32:UInt8)] }++bs (itoa (Stp.c (f (Int.toNat (↑(x2.1):Int)))).2)++{ data := #[(32:UInt8)] }++bs (itoa (Stp.c (f (Int.toNat (↑(x2.1):Int)))).3)++{ data := #[(32:UInt8)] }++bs (itoa (Stp.c (f (Int.toNat (↑(x2.1):Int)))).4)++{ data := #[(58:UInt8),(32:UInt8)] }++{ data := #[(101:UInt8),(114:UInt8),(114:UInt8),(111:UInt8),(114:UInt8),(32:UInt8)] }++bs (itoa (f (Int.toNat (↑(x2.1):Int))).2))+8≤9223372036854775807) (.sc (true) 42 ([AV.isl (1) (f (Int.toNat (↑(x2.1):Int))).4 fun (i x:Nat)=>Zi ((f (Int.toNat (↑(x2.1):Int))).5 i),AV.str { data := #[] }]) (AV.str (bs (cmL (Stp.key (f (Int.toNat (↑(x2.1):Int)))) (Stp.n (f (Int.toNat (↑(x2.1):Int))))))) (.req (ByteArray.size (bs (stpsF f x2.1)++bs (List.getD stepW (Int.toNat ((Stp.c (f (Int.toNat (↑(x2.1):Int)))).1 - (1:Int))) [])++{ data := #[(32:UInt8)] }++bs (itoa (Stp.c (f (Int.toNat (↑(x2.1):Int)))).2)++{ data := #[(32:UInt8)] }++bs (itoa (Stp.c (f (Int.toNat (↑(x2.1):Int)))).3)++{ data := #[(32:UInt8)] }++bs (itoa (Stp.c (f (Int.toNat (↑(x2.1):Int)))).4)++{ data := #[(58:UInt8),(32:UInt8)] }++{ data := #[(101:UInt8),(114:UInt8),(114:UInt8),(111:UInt8),(114:UInt8),(32:UInt8)] }++bs (itoa (f (Int.toNat (↑(x2.1):Int))).2)++{ data := #[(32:UInt8),(103:UInt8),(117:UInt8),(105:UInt8),(108:UInt8),(116:UInt8),(121:UInt8),(32:UInt8)] })+ByteArray.size (bs (cmL (f (Int.toNat (↑(x2.1):Int))).5 (f (Int.toNat (↑(x2.1):Int))).4))≤9223372036854775807) (.req (ByteArray.size (bs (stpsF f x2.1)++bs (List.getD stepW (Int.toNat ((Stp.c (f (Int.toNat (↑(x2.1):Int)))).1 - (1:Int))) [])++{ data := #[(32:UInt8)] }++bs (itoa (Stp.c (f (Int.toNat (↑(x2.1):Int)))).2)++{ data := #[(32:UInt8)] }++bs (itoa (Stp.c (f (Int.toNat (↑(x2.1):Int)))).3)++{ data := #[(32:UInt8)] }++bs (itoa (Stp.c (f (Int.toNat (↑(x2.1):Int)))).4)++{ data := #[(58:UInt8),(32:UInt8)] }++{ data := #[(101:UInt8),(114:UInt8),(114:UInt8),(111:UInt8),(114:UInt8),(32:UInt8)] }++bs (itoa (f (Int.toNat (↑(x2.1):Int))).2)++{ data := #[(32:UInt8),(103:UInt8),(117:UInt8),(105:UInt8),(108:UInt8),(116:UInt8),(121:UInt8),(32:UInt8)] }++bs (cmL (f (Int.toNat (↑(x2.1):Int))).5 (f (Int.toNat (↑(x2.1):Int))).4))+1≤9223372036854775807) (.again (Again (0) (fun (x:{ x:Nat // x≤n∧(fun (x:Nat)=>∀ (j:Nat),j<x→stpOk (f j)=true) x })=>mkSt [0,4,5] [AV.isl (8) n fun (i j:Nat)=>atL (Stp.cells (f i)) j,AV.str (bs (stpsF f (x.1))),Zi (↑(x.1):Int)] []) (fun (x:{ x:Nat // x≤n∧(fun (x:Nat)=>∀ (j:Nat),j<x→stpOk (f j)=true) x })=>n - x.1) x2) ([0,4,5]) ([]) ([AV.isl (8) n fun (i j:Nat)=>atL (Stp.cells (f i)) j,AV.str (bs (stpsF f x2.1)++bs (List.getD stepW (Int.toNat ((Stp.c (f (Int.toNat (↑(x2.1):Int)))).1 - (1:Int))) [])++{ data := #[(32:UInt8)] }++bs (itoa (Stp.c (f (Int.toNat (↑(x2.1):Int)))).2)++{ data := #[(32:UInt8)] }++bs (itoa (Stp.c (f (Int.toNat (↑(x2.1):Int)))).3)++{ data := #[(32:UInt8)] }++bs (itoa (Stp.c (f (Int.toNat (↑(x2.1):Int)))).4)++{ data := #[(58:UInt8),(32:UInt8)] }++{ data := #[(101:UInt8),(114:UInt8),(114:UInt8),(111:UInt8),(114:UInt8),(32:UInt8)] }++bs (itoa (f (Int.toNat (↑(x2.1):Int))).2)++{ data := #[(32:UInt8),(103:UInt8),(117:UInt8),(105:UInt8),(108:UInt8),(116:UInt8),(121:UInt8),(32:UInt8)] }++bs (cmL (f (Int.toNat (↑(x2.1):Int))).5 (f (Int.toNat (↑(x2.1):Int))).4)++{ data := #[(10:UInt8)] }),Zi (IntKind.wrap IntKind.i64 ((↑x2.1:Int)+(1:Int)))]) ([])))))) (.req (ByteArray.size (bs (stpsF f x2.1)++bs (List.getD stepW (Int.toNat ((Stp.c (f (Int.toNat (↑(x2.1):Int)))).1 - (1:Int))) [])++{ data := #[(32:UInt8)] }++bs (itoa (Stp.c (f (Int.toNat (↑(x2.1):Int)))).2)++{ data := #[(32:UInt8)] }++bs (itoa (Stp.c (f (Int.toNat (↑(x2.1):Int)))).3)++{ data := #[(32:UInt8)] }++bs (itoa (Stp.c (f (Int.toNat (↑(x2.1):Int)))).4)++{ data := #[(58:UInt8),(32:UInt8)] }++{ data := #[(101:UInt8),(114:UInt8),(114:UInt8),(111:UInt8),(114:UInt8),(32:UInt8)] }++bs (itoa (f (Int.toNat (↑(x2.1):Int))).2))+1≤9223372036854775807) (.again (Again (0) (fun (x:{ x:Nat // x≤n∧(fun (x:Nat)=>∀ (j:Nat),j<x→stpOk (f j)=true) x })=>mkSt [0,4,5] [AV.isl (8) n fun (i j:Nat)=>atL (Stp.cells (f i)) j,AV.str (bs (stpsF f (x.1))),Zi (↑(x.1):Int)] []) (fun (x:{ x:Nat // x≤n∧(fun (x:Nat)=>∀ (j:Nat),j<x→stpOk (f j)=true) x })=>n - x.1) x2) ([0,4,5]) ([]) ([AV.isl (8) n fun (i j:Nat)=>atL (Stp.cells (f i)) j,AV.str (bs (stpsF f x2.1)++bs (List.getD stepW (Int.toNat ((Stp.c (f (Int.toNat (↑(x2.1):Int)))).1 - (1:Int))) [])++{ data := #[(32:UInt8)] }++bs (itoa (Stp.c (f (Int.toNat (↑(x2.1):Int)))).2)++{ data := #[(32:UInt8)] }++bs (itoa (Stp.c (f (Int.toNat (↑(x2.1):Int)))).3)++{ data := #[(32:UInt8)] }++bs (itoa (Stp.c (f (Int.toNat (↑(x2.1):Int)))).4)++{ data := #[(58:UInt8),(32:UInt8)] }++{ data := #[(101:UInt8),(114:UInt8),(114:UInt8),(111:UInt8),(114:UInt8),(32:UInt8)] }++bs (itoa (f (Int.toNat (↑(x2.1):Int))).2)++{ data := #[(10:UInt8)] }),Zi (IntKind.wrap IntKind.i64 ((↑x2.1:Int)+(1:Int)))]) ([]))))))) (.sc (true) 40 ([Zi (f (Int.toNat (↑(x2.1):Int))).3]) (AV.str (bs (itoa (Stp.amt (f (Int.toNat (↑(x2.1):Int))))))) (.req (ByteArray.size (bs (stpsF f x2.1)++bs (List.getD stepW (Int.toNat ((Stp.c (f (Int.toNat (↑(x2.1):Int)))).1 - (1:Int))) [])++{ data := #[(32:UInt8)] }++bs (itoa (Stp.c (f (Int.toNat (↑(x2.1):Int)))).2)++{ data := #[(32:UInt8)] }++bs (itoa (Stp.c (f (Int.toNat (↑(x2.1):Int)))).3)++{ data := #[(32:UInt8)] }++bs (itoa (Stp.c (f (Int.toNat (↑(x2.1):Int)))).4)++{ data := #[(58:UInt8),(32:UInt8)] })+ByteArray.size (bs (itoa (f (Int.toNat (↑(x2.1):Int))).3))≤9223372036854775807) (.br (decide ((↑(f (Int.toNat (↑(x2.1):Int))).4:Int)>(0:Int))) (.req (ByteArray.size (bs (stpsF f x2.1)++bs (List.getD stepW (Int.toNat ((Stp.c (f (Int.toNat (↑(x2.1):Int)))).1 - (1:Int))) [])++{ data := #[(32:UInt8)] }++bs (itoa (Stp.c (f (Int.toNat (↑(x2.1):Int)))).2)++{ data := #[(32:UInt8)] }++bs (itoa (Stp.c (f (Int.toNat (↑(x2.1):Int)))).3)++{ data := #[(32:UInt8)] }++bs (itoa (Stp.c (f (Int.toNat (↑(x2.1):Int)))).4)++{ data := #[(58:UInt8),(32:UInt8)] }++bs (itoa (f (Int.toNat (↑(x2.1):Int))).3))+8≤9223372036854775807) (.sc (true) 42 ([AV.isl (1) (f (Int.toNat (↑(x2.1):Int))).4 fun (i x:Nat)=>Zi ((f (Int.toNat (↑(x2.1):Int))).5 i),AV.str { data := #[] }]) (AV.str (bs (cmL (Stp.key (f (Int.toNat (↑(x2.1):Int)))) (Stp.n (f (Int.toNat (↑(x2.1):Int))))))) (.req (ByteArray.size (bs (stpsF f x2.1)++bs (List.getD stepW (Int.toNat ((Stp.c (f (Int.toNat (↑(x2.1):Int)))).1 - (1:Int))) [])++{ data := #[(32:UInt8)] }++bs (itoa (Stp.c (f (Int.toNat (↑(x2.1):Int)))).2)++{ data := #[(32:UInt8)] }++bs (itoa (Stp.c (f (Int.toNat (↑(x2.1):Int)))).3)++{ data := #[(32:UInt8)] }++bs (itoa (Stp.c (f (Int.toNat (↑(x2.1):Int)))).4)++{ data := #[(58:UInt8),(32:UInt8)] }++bs (itoa (f (Int.toNat (↑(x2.1):Int))).3)++{ data := #[(32:UInt8),(103:UInt8),(117:UInt8),(105:UInt8),(108:UInt8),(116:UInt8),(121:UInt8),(32:UInt8)] })+ByteArray.size (bs (cmL (f (Int.toNat (↑(x2.1):Int))).5 (f (Int.toNat (↑(x2.1):Int))).4))≤9223372036854775807) (.req (ByteArray.size (bs (stpsF f x2.1)++bs (List.getD stepW (Int.toNat ((Stp.c (f (Int.toNat (↑(x2.1):Int)))).1 - (1:Int))) [])++{ data := #[(32:UInt8)] }++bs (itoa (Stp.c (f (Int.toNat (↑(x2.1):Int)))).2)++{ data := #[(32:UInt8)] }++bs (itoa (Stp.c (f (Int.toNat (↑(x2.1):Int)))).3)++{ data := #[(32:UInt8)] }++bs (itoa (Stp.c (f (Int.toNat (↑(x2.1):Int)))).4)++{ data := #[(58:UInt8),(32:UInt8)] }++bs (itoa (f (Int.toNat (↑(x2.1):Int))).3)++{ data := #[(32:UInt8),(103:UInt8),(117:UInt8),(105:UInt8),(108:UInt8),(116:UInt8),(121:UInt8),(32:UInt8)] }++bs (cmL (f (Int.toNat (↑(x2.1):Int))).5 (f (Int.toNat (↑(x2.1):Int))).4))+1≤9223372036854775807) (.again (Again (0) (fun (x:{ x:Nat // x≤n∧(fun (x:Nat)=>∀ (j:Nat),j<x→stpOk (f j)=true) x })=>mkSt [0,4,5] [AV.isl (8) n fun (i j:Nat)=>atL (Stp.cells (f i)) j,AV.str (bs (stpsF f (x.1))),Zi (↑(x.1):Int)] []) (fun (x:{ x:Nat // x≤n∧(fun (x:Nat)=>∀ (j:Nat),j<x→stpOk (f j)=true) x })=>n - x.1) x2) ([0,4,5]) ([]) ([AV.isl (8) n fun (i j:Nat)=>atL (Stp.cells (f i)) j,AV.str (bs (stpsF f x2.1)++bs (List.getD stepW (Int.toNat ((Stp.c (f (Int.toNat (↑(x2.1):Int)))).1 - (1:Int))) [])++{ data := #[(32:UInt8)] }++bs (itoa (Stp.c (f (Int.toNat (↑(x2.1):Int)))).2)++{ data := #[(32:UInt8)] }++bs (itoa (Stp.c (f (Int.toNat (↑(x2.1):Int)))).3)++{ data := #[(32:UInt8)] }++bs (itoa (Stp.c (f (Int.toNat (↑(x2.1):Int)))).4)++{ data := #[(58:UInt8),(32:UInt8)] }++bs (itoa (f (Int.toNat (↑(x2.1):Int))).3)++{ data := #[(32:UInt8),(103:UInt8),(117:UInt8),(105:UInt8),(108:UInt8),(116:UInt8),(121:UInt8),(32:UInt8)] }++bs (cmL (f (Int.toNat (↑(x2.1):Int))).5 (f (Int.toNat (↑(x2.1):Int))).4)++{ data := #[(10:UInt8)] }),Zi (IntKind.wrap IntKind.i64 ((↑x2.1:Int)+(1:Int)))]) ([])))))) (.req (ByteArray.size (bs (stpsF f x2.1)++bs (List.getD stepW (Int.toNat ((Stp.c (f (Int.toNat (↑(x2.1):Int)))).1 - (1:Int))) [])++{ data := #[(32:UInt8)] }++bs (itoa (Stp.c (f (Int.toNat (↑(x2.1):Int)))).2)++{ data := #[(32:UInt8)] }++bs (itoa (Stp.c (f (Int.toNat (↑(x2.1):Int)))).3)++{ data := #[(32:UInt8)] }++bs (itoa (Stp.c (f (Int.toNat (↑(x2.1):Int)))).4)++{ data := #[(58:UInt8),(32:UInt8)] }++bs (itoa (f (Int.toNat (↑(x2.1):Int))).3))+1≤9223372036854775807) (.again (Again (0) (fun (x:{ x:Nat // x≤n∧(fun (x:Nat)=>∀ (j:Nat),j<x→stpOk (f j)=true) x })=>mkSt [0,4,5] [AV.isl (8) n fun (i j:Nat)=>atL (Stp.cells (f i)) j,AV.str (bs (stpsF f (x.1))),Zi (↑(x.1):Int)] []) (fun (x:{ x:Nat // x≤n∧(fun (x:Nat)=>∀ (j:Nat),j<x→stpOk (f j)=true) x })=>n - x.1) x2) ([0,4,5]) ([]) ([AV.isl (8) n fun (i j:Nat)=>atL (Stp.cells (f i)) j,AV.str (bs (stpsF f x2.1)++bs (List.getD stepW (Int.toNat ((Stp.c (f (Int.toNat (↑(x2.1):Int)))).1 - (1:Int))) [])++{ data := #[(32:UInt8)] }++bs (itoa (Stp.c (f (Int.toNat (↑(x2.1):Int)))).2)++{ data := #[(32:UInt8)] }++bs (itoa (Stp.c (f (Int.toNat (↑(x2.1):Int)))).3)++{ data := #[(32:UInt8)] }++bs (itoa (Stp.c (f (Int.toNat (↑(x2.1):Int)))).4)++{ data := #[(58:UInt8),(32:UInt8)] }++bs (itoa (f (Int.toNat (↑(x2.1):Int))).3)++{ data := #[(10:UInt8)] }),Zi (IntKind.wrap IntKind.i64 ((↑x2.1:Int)+(1:Int)))]) ([]))))))))))))))))))))) (.out (AV.tup [AV.str (bs (stpsF f x2.1)),Zi 0]) [] (AV.tup [AV.str (bs (stepsV n f)),Zi (stepsE n f)]) [])))))
  (by kernel_rfl) ?_
 refine k_br (fun h0=>?_) (fun h0=>?_)
 ·have g0:=cnd_dec_t h0
  exact k_out ((by exfalso;omega))
 ·have g0:=cnd_dec_f h0
  refine k_loop (fun _ hs=>hs.le (⟨.refl _,.refl _,.refl _,trivial⟩) (trivial)) (fun x2=>?_)
  try (have q2:=x2.2;dsimp only at q2)
  refine k_br (fun h3=>?_) (fun h3=>?_)
  ·have g3:=cnd_dec_t h3
   refine k_req (by first|omega|(obtain ⟨z1,z2,z3,z4,z5,z6,z7,z8,z9⟩:=stpZ_in hn hR x2.2.2 (show x2.1<n by omega) (stpOk_t g5);simp only [Int.toNat_natCast,ByteArray.size_append,bs_size,zLn,List.length_cons,List.length_nil];omega)) ?_
   refine k_br (fun h5=>?_) (fun h5=>?_)
   ·have g5:=(cnd_or_t (cnd_or_t (cnd_or_t (cnd_or_t cnd_dec_t cnd_dec_t) cnd_dec_t) cnd_dec_t) cnd_dec_t) h5
    try simp only [Int.toNat_natCast] at g5
    exact k_out ((by have q:=L1 x2.1 (by omega) (stpOk_f g5);rw [q.1,q.2];exact Ent.refl _))
   ·have g5:=(cnd_or_f (cnd_or_f (cnd_or_f (cnd_or_f cnd_dec_f cnd_dec_f) cnd_dec_f) cnd_dec_f) cnd_dec_f) h5
    try simp only [Int.toNat_natCast] at g5
    refine k_sc (c0 (Int.toNat (↑(x2.1):Int)) (by first|assumption|omega|(simp only [Int.toNat_natCast];first|assumption|omega|exact ⟨by omega,by omega⟩))) ?_
    refine k_req (by first|omega|(obtain ⟨z1,z2,z3,z4,z5,z6,z7,z8,z9⟩:=stpZ_in hn hR x2.2.2 (show x2.1<n by omega) (stpOk_t g5);simp only [Int.toNat_natCast,bs_size];omega)) ?_
    refine k_req (by first|omega|(obtain ⟨z1,z2,z3,z4,z5,z6,z7,z8,z9⟩:=stpZ_in hn hR x2.2.2 (show x2.1<n by omega) (stpOk_t g5);simp only [Int.toNat_natCast,ByteArray.size_append,bs_size];omega)) ?_
    refine k_sc (c1 (Int.toNat (↑(x2.1):Int)) (by first|assumption|omega|(simp only [Int.toNat_natCast];first|assumption|omega|exact ⟨by omega,by omega⟩))) ?_
    refine k_req (by first|omega|(obtain ⟨z1,z2,z3,z4,z5,z6,z7,z8,z9⟩:=stpZ_in hn hR x2.2.2 (show x2.1<n by omega) (stpOk_t g5);simp only [Int.toNat_natCast,ByteArray.size_append,bs_size,List.length_cons,List.length_nil];omega)) ?_
    refine k_req (by first|omega|(obtain ⟨z1,z2,z3,z4,z5,z6,z7,z8,z9⟩:=stpZ_in hn hR x2.2.2 (show x2.1<n by omega) (stpOk_t g5);simp only [Int.toNat_natCast,ByteArray.size_append,bs_size,List.length_cons,List.length_nil];omega)) ?_
    refine k_sc (c2 (Int.toNat (↑(x2.1):Int)) (by first|assumption|omega|(simp only [Int.toNat_natCast];first|assumption|omega|exact ⟨by omega,by omega⟩))) ?_
    refine k_req (by first|omega|(obtain ⟨z1,z2,z3,z4,z5,z6,z7,z8,z9⟩:=stpZ_in hn hR x2.2.2 (show x2.1<n by omega) (stpOk_t g5);simp only [Int.toNat_natCast,ByteArray.size_append,bs_size,List.length_cons,List.length_nil];omega)) ?_
    refine k_req (by first|omega|(obtain ⟨z1,z2,z3,z4,z5,z6,z7,z8,z9⟩:=stpZ_in hn hR x2.2.2 (show x2.1<n by omega) (stpOk_t g5);simp only [Int.toNat_natCast,ByteArray.size_append,bs_size,List.length_cons,List.length_nil];omega)) ?_
    refine k_sc (c3 (Int.toNat (↑(x2.1):Int)) (by first|assumption|omega|(simp only [Int.toNat_natCast];first|assumption|omega|exact ⟨by omega,by omega⟩))) ?_
    refine k_req (by first|omega|(obtain ⟨z1,z2,z3,z4,z5,z6,z7,z8,z9⟩:=stpZ_in hn hR x2.2.2 (show x2.1<n by omega) (stpOk_t g5);simp only [Int.toNat_natCast,ByteArray.size_append,bs_size,List.length_cons,List.length_nil];omega)) ?_
    refine k_req (by first|omega|(obtain ⟨z1,z2,z3,z4,z5,z6,z7,z8,z9⟩:=stpZ_in hn hR x2.2.2 (show x2.1<n by omega) (stpOk_t g5);simp only [Int.toNat_natCast,ByteArray.size_append,bs_size,List.length_cons,List.length_nil];omega)) ?_
    refine k_br (fun h19=>?_) (fun h19=>?_)
    ·have g19:=cnd_bne_t h19
     try simp only [Int.toNat_natCast] at g19
     refine k_req (by first|omega|(obtain ⟨z1,z2,z3,z4,z5,z6,z7,z8,z9⟩:=stpZ_in hn hR x2.2.2 (show x2.1<n by omega) (stpOk_t g5);simp only [Int.toNat_natCast,ByteArray.size_append,bs_size,List.length_cons,List.length_nil];omega)) ?_
     refine k_sc (c5 (Int.toNat (↑(x2.1):Int)) (by first|assumption|omega|(simp only [Int.toNat_natCast];first|assumption|omega|exact ⟨by omega,by omega⟩))) ?_
     refine k_req (by first|omega|(obtain ⟨z1,z2,z3,z4,z5,z6,z7,z8,z9⟩:=stpZ_in hn hR x2.2.2 (show x2.1<n by omega) (stpOk_t g5);simp only [Int.toNat_natCast,ByteArray.size_append,bs_size,List.length_cons,List.length_nil];omega)) ?_
     refine k_br (fun h23=>?_) (fun h23=>?_)
     ·have g23:=cnd_dec_t h23
      try simp only [Int.toNat_natCast] at g23
      refine k_req (by first|omega|(obtain ⟨z1,z2,z3,z4,z5,z6,z7,z8,z9⟩:=stpZ_in hn hR x2.2.2 (show x2.1<n by omega) (stpOk_t g5);simp only [Int.toNat_natCast,ByteArray.size_append,bs_size,List.length_cons,List.length_nil];omega)) ?_
      refine k_sc (c6 (Int.toNat (↑(x2.1):Int)) (by first|assumption|omega|(simp only [Int.toNat_natCast];first|assumption|omega|exact ⟨by omega,by omega⟩)) (by first|assumption|omega|(simp only [Int.toNat_natCast];first|assumption|omega|exact ⟨by omega,by omega⟩)) (by first|assumption|omega|(simp only [Int.toNat_natCast];first|assumption|omega|exact ⟨by omega,by omega⟩))) ?_
      refine k_req (by first|omega|(obtain ⟨z1,z2,z3,z4,z5,z6,z7,z8,z9⟩:=stpZ_in hn hR x2.2.2 (show x2.1<n by omega) (stpOk_t g5);simp only [Int.toNat_natCast,ByteArray.size_append,bs_size,List.length_cons,List.length_nil];omega)) ?_
      refine k_req (by first|omega|(obtain ⟨z1,z2,z3,z4,z5,z6,z7,z8,z9⟩:=stpZ_in hn hR x2.2.2 (show x2.1<n by omega) (stpOk_t g5);simp only [Int.toNat_natCast,ByteArray.size_append,bs_size,List.length_cons,List.length_nil];omega)) ?_
      exact k_again (⟨x2.1+1,by omega,fun j hj=>by rcases Nat.lt_succ_iff_lt_or_eq.1 hj with hj|rfl;(· exact x2.2.2 j hj);(· exact stpOk_t g5)⟩) (fun _ hs=>hs.le (by repeat' (first|exact trivial|refine And.intro ?_ ?_|exact Ent.of_eq (congrArg AV.str (by simp only [Int.toNat_natCast];exact rstp_1 g19 g23))|exact inc_ent (by omega)|exact Ent.of_eq (congrArg (AV.int _) (by first|omega|(dsimp only;omega)))|exact Ent.refl _)) (trivial)) (by dsimp only;omega)
     ·have g23:=cnd_dec_f h23
      try simp only [Int.toNat_natCast] at g23
      refine k_req (by first|omega|(obtain ⟨z1,z2,z3,z4,z5,z6,z7,z8,z9⟩:=stpZ_in hn hR x2.2.2 (show x2.1<n by omega) (stpOk_t g5);simp only [Int.toNat_natCast,ByteArray.size_append,bs_size,List.length_cons,List.length_nil];omega)) ?_
      exact k_again (⟨x2.1+1,by omega,fun j hj=>by rcases Nat.lt_succ_iff_lt_or_eq.1 hj with hj|rfl;(· exact x2.2.2 j hj);(· exact stpOk_t g5)⟩) (fun _ hs=>hs.le (by repeat' (first|exact trivial|refine And.intro ?_ ?_|exact Ent.of_eq (congrArg AV.str (by simp only [Int.toNat_natCast];exact rstp_2 g19 g23))|exact inc_ent (by omega)|exact Ent.of_eq (congrArg (AV.int _) (by first|omega|(dsimp only;omega)))|exact Ent.refl _)) (trivial)) (by dsimp only;omega)
    ·have g19:=cnd_bne_f h19
     try simp only [Int.toNat_natCast] at g19
     refine k_sc (c4 (Int.toNat (↑(x2.1):Int)) (by first|assumption|omega|(simp only [Int.toNat_natCast];first|assumption|omega|exact ⟨by omega,by omega⟩))) ?_
     refine k_req (by first|omega|(obtain ⟨z1,z2,z3,z4,z5,z6,z7,z8,z9⟩:=stpZ_in hn hR x2.2.2 (show x2.1<n by omega) (stpOk_t g5);simp only [Int.toNat_natCast,ByteArray.size_append,bs_size,List.length_cons,List.length_nil];omega)) ?_
     refine k_br (fun h33=>?_) (fun h33=>?_)
     ·have g33:=cnd_dec_t h33
      try simp only [Int.toNat_natCast] at g33
      refine k_req (by first|omega|(obtain ⟨z1,z2,z3,z4,z5,z6,z7,z8,z9⟩:=stpZ_in hn hR x2.2.2 (show x2.1<n by omega) (stpOk_t g5);simp only [Int.toNat_natCast,ByteArray.size_append,bs_size,List.length_cons,List.length_nil];omega)) ?_
      refine k_sc (c6 (Int.toNat (↑(x2.1):Int)) (by first|assumption|omega|(simp only [Int.toNat_natCast];first|assumption|omega|exact ⟨by omega,by omega⟩)) (by first|assumption|omega|(simp only [Int.toNat_natCast];first|assumption|omega|exact ⟨by omega,by omega⟩)) (by first|assumption|omega|(simp only [Int.toNat_natCast];first|assumption|omega|exact ⟨by omega,by omega⟩))) ?_
      refine k_req (by first|omega|(obtain ⟨z1,z2,z3,z4,z5,z6,z7,z8,z9⟩:=stpZ_in hn hR x2.2.2 (show x2.1<n by omega) (stpOk_t g5);simp only [Int.toNat_natCast,ByteArray.size_append,bs_size,List.length_cons,List.length_nil];omega)) ?_
      refine k_req (by first|omega|(obtain ⟨z1,z2,z3,z4,z5,z6,z7,z8,z9⟩:=stpZ_in hn hR x2.2.2 (show x2.1<n by omega) (stpOk_t g5);simp only [Int.toNat_natCast,ByteArray.size_append,bs_size,List.length_cons,List.length_nil];omega)) ?_
      exact k_again (⟨x2.1+1,by omega,fun j hj=>by rcases Nat.lt_succ_iff_lt_or_eq.1 hj with hj|rfl;(· exact x2.2.2 j hj);(· exact stpOk_t g5)⟩) (fun _ hs=>hs.le (by repeat' (first|exact trivial|refine And.intro ?_ ?_|exact Ent.of_eq (congrArg AV.str (by simp only [Int.toNat_natCast];exact rstp_3 g19 g33))|exact inc_ent (by omega)|exact Ent.of_eq (congrArg (AV.int _) (by first|omega|(dsimp only;omega)))|exact Ent.refl _)) (trivial)) (by dsimp only;omega)
     ·have g33:=cnd_dec_f h33
      try simp only [Int.toNat_natCast] at g33
      refine k_req (by first|omega|(obtain ⟨z1,z2,z3,z4,z5,z6,z7,z8,z9⟩:=stpZ_in hn hR x2.2.2 (show x2.1<n by omega) (stpOk_t g5);simp only [Int.toNat_natCast,ByteArray.size_append,bs_size,List.length_cons,List.length_nil];omega)) ?_
      exact k_again (⟨x2.1+1,by omega,fun j hj=>by rcases Nat.lt_succ_iff_lt_or_eq.1 hj with hj|rfl;(· exact x2.2.2 j hj);(· exact stpOk_t g5)⟩) (fun _ hs=>hs.le (by repeat' (first|exact trivial|refine And.intro ?_ ?_|exact Ent.of_eq (congrArg AV.str (by simp only [Int.toNat_natCast];exact rstp_4 g19 g33))|exact inc_ent (by omega)|exact Ent.of_eq (congrArg (AV.int _) (by first|omega|(dsimp only;omega)))|exact Ent.refl _)) (trivial)) (by dsimp only;omega)
  ·have g3:=cnd_dec_f h3
   exact k_out ((by have e:x2.1=n:=(by omega);have q:=L0 (fun j hj=>x2.2.2 j (by omega));rw [q.1,q.2,e];exact Ent.refl _))
end Go.Proofs.YtbmdmoknnlhdoaaGreatDoor.O

namespace Go.Sp
open Go Go.Am Go.Lib

structure Prf where
  a : List Int
  c : Int
  z : List Int
def Prf.cells (p : Prf) : List AV := [il .i64 p.a, .int .i64 p.c, il .i64 p.z]
structure Prt where
  idx : Int
  val : Int
  prf : Prf
def Prt.cells (p : Prt) : List AV := [.int .i64 p.idx, .int .i64 p.val, il .i64 p.prf.a, .int .i64 p.prf.c, il .i64 p.prf.z]
structure Odr where
  num : Int
  why : Str
  e1 : Int
  e2 : Int
  prf : Prf
  np : Nat
  part : Nat → Prt
  key : Int
def prtA (n : Nat) (f : Nat → Prt) : AV := .isl 5 n fun i j => atL (f i).cells j
def Odr.cells (o : Odr) : List AV := [.int .i64 o.num, .str (bs o.why), .int .i64 o.e1, .int .i64 o.e2, il .i64 o.prf.a, .int .i64 o.prf.c, il .i64 o.prf.z, prtA o.np o.part, .int .i64 o.key]
def Odr.esc (o : Odr) : List AV := [.int .i64 o.e1, .int .i64 o.e2, il .i64 o.prf.a, .int .i64 o.prf.c, il .i64 o.prf.z]
structure Trl where
  n : Nat
  ord : Nat → Odr
  nl : Nat
  lnk : Nat → Nat → Int
def ordA (n : Nat) (f : Nat → Odr) : AV := .isl 9 n fun i j => atL (f i).cells j
def Trl.cells (t : Trl) : List AV := [ordA t.n t.ord, .isl 32 t.nl fun i j => .int .u8 (t.lnk i j)]

def Prt.it (p : Prt) : It := lsI [intsI [p.idx, p.val], intsI p.prf.a, .int p.prf.c, intsI p.prf.z]
def Odr.eit (o : Odr) : It := lsI [intsI [o.e1, o.e2], intsI o.prf.a, .int o.prf.c, intsI o.prf.z]
def Odr.it (o : Odr) : It := lsI [.int o.num, .byt o.why.length (strF (bs o.why)), o.eit, .li o.np fun i => (o.part i).it, .int o.key]
def lnkI (h : Nat → Int) (o : Odr) : It := lsI [.byt 32 h, o.it]
def lnkD (h : Nat → Int) (o : Odr) : Nat → Int := tagI "specie/trail".toUTF8 (lnkI h o)

def shortP (p : Prf) : Bool := decide (p.a.length ≤ 20) && decide (p.z.length ≤ 20)
def prtB (f : Nat → Prt) (i : Nat) : Bool := decide (1 ≤ (f i).idx) && decide ((f i).idx ≤ 8) && (List.range i).all (fun j => !((f j).idx == (f i).idx)) && shortP (f i).prf
def headB (o : Odr) : Bool := decide (0 ≤ o.num) && decide (o.num < 100) && decide (1 ≤ o.why.length) && decide (o.why.length ≤ 200) && shortP o.prf && decide (o.np ≤ 8) && decide (0 ≤ o.key)
def ordB (o : Odr) : Bool := headB o && (List.range o.np).all (prtB o.part)

structure Odr.Sm (o : Odr) : Prop where
  why : o.why.length ≤ 200
  a : o.prf.a.length ≤ 20
  z : o.prf.z.length ≤ 20
  np : o.np ≤ 8
  pa : ∀ i, i < o.np → (o.part i).prf.a.length ≤ 20
  pz : ∀ i, i < o.np → (o.part i).prf.z.length ≤ 20
theorem ordB_sm {o : Odr} (h : ordB o = true) : o.Sm := by
  simp only [ordB, headB, shortP, prtB, Bool.and_eq_true, decide_eq_true_eq, List.all_eq_true, List.mem_range] at h
  obtain ⟨⟨⟨⟨⟨⟨⟨h1, _⟩, _⟩, h2⟩, h3⟩, h4⟩, h5⟩, h6⟩ := h
  exact ⟨h2, h3.1, h3.2, h4, fun i hi => (h6 i hi).2.1, fun i hi => (h6 i hi).2.2⟩
theorem li5_len {a b c d e : It} : (lsI [a, b, c, d, e]).enc.length = 5 + a.enc.length + b.enc.length + c.enc.length + d.enc.length + e.enc.length := by
  show (It.encP 5 _ (0 + 1 + 1 + 1 + 1 + 1)).length = _
  rw [It.encP_succ, It.encP_succ, It.encP_succ, It.encP_succ, It.encP_succ, It.encP_zero]
  simp [nbL_len]; omega
theorem li2_len {a b : It} : (lsI [a, b]).enc.length = 5 + a.enc.length + b.enc.length := by
  show (It.encP 2 _ (0 + 1 + 1)).length = _
  rw [It.encP_succ, It.encP_succ, It.encP_zero]
  simp [nbL_len]; omega
theorem prt_len {p : Prt} (ha : p.prf.a.length ≤ 20) (hz : p.prf.z.length ≤ 20) : p.it.enc.length ≤ 407 := by
  unfold Prt.it
  rw [li4_len, intsI_len, intsI_len, int_len, intsI_len]
  simp only [List.length_cons, List.length_nil]; omega
theorem parts_len {f : Nat → Prt} {n : Nat} : ∀ k, (∀ i, i < k → (f i).prf.a.length ≤ 20 ∧ (f i).prf.z.length ≤ 20) → (It.encP n (fun i => (f i).it) k).length ≤ 5 + 407 * k
  | 0, _ => by rw [It.encP_zero]; simp [nbL_len]
  | k + 1, h => by
    have h1 := parts_len (f := f) (n := n) k (fun i hi => h i (by omega))
    have h2 := prt_len (h k (by omega)).1 (h k (by omega)).2
    rw [It.encP_succ, List.length_append]
    show _ + ((f k).it).enc.length ≤ _
    omega
theorem odr_len {o : Odr} (h : o.Sm) : o.it.enc.length ≤ 4000 := by
  have h1 := parts_len (f := o.part) (n := o.np) o.np (fun i hi => ⟨h.pa i hi, h.pz i hi⟩)
  have h2 := h.np; have h3 := h.why; have h4 := h.a; have h5 := h.z
  unfold Odr.it Odr.eit
  rw [li5_len, int_len, byt_len, li4_len, intsI_len, intsI_len, int_len, intsI_len, int_len, It.enc_li]
  simp only [List.length_cons, List.length_nil]; omega
theorem lnk_len {o : Odr} (h : o.Sm) (d : Nat → Int) : (lnkI d o).enc.length ≤ 5000 := by
  have := odr_len h
  unfold lnkI
  rw [li2_len, byt_len]; omega
theorem prt_okD {p : Prt} (ha : p.prf.a.length ≤ 20) (hz : p.prf.z.length ≤ 20) : p.it.okD 5 = true := okd_ls (by decide) (by simp) fun x hx => by
  simp only [List.mem_cons, List.not_mem_nil, or_false] at hx
  rcases hx with rfl | rfl | rfl | rfl
  · exact okd_ints (by decide) (by simp)
  · exact okd_ints (by decide) (by omega)
  · rfl
  · exact okd_ints (by decide) (by omega)
theorem eit_okD {o : Odr} (h : o.Sm) : o.eit.okD 6 = true := okd_ls (by decide) (by simp) fun x hx => by
  have h4 := h.a; have h5 := h.z
  simp only [List.mem_cons, List.not_mem_nil, or_false] at hx
  rcases hx with rfl | rfl | rfl | rfl
  · exact okd_ints (by decide) (by simp)
  · exact okd_ints (by decide) (by omega)
  · rfl
  · exact okd_ints (by decide) (by omega)
theorem odr_okD {o : Odr} (h : o.Sm) : o.it.okD 7 = true := okd_ls (by decide) (by simp) fun x hx => by
  have h4 := h.np
  simp only [List.mem_cons, List.not_mem_nil, or_false] at hx
  rcases hx with rfl | rfl | rfl | rfl | rfl
  · rfl
  · rfl
  · exact eit_okD h
  · exact okd_li (by decide) (by omega) fun i hi => prt_okD (h.pa i hi) (h.pz i hi)
  · rfl
theorem lnk_okD {o : Odr} (h : o.Sm) (d : Nat → Int) : (lnkI d o).okD 8 = true := okd_ls (by decide) (by simp) fun x hx => by
  simp only [List.mem_cons, List.not_mem_nil, or_false] at hx
  rcases hx with rfl | rfl
  · rfl
  · exact odr_okD h
theorem prt_okB (p : Prt) : p.it.okB := lsI_okB fun x hx => by
  simp only [List.mem_cons, List.not_mem_nil, or_false] at hx
  rcases hx with rfl | rfl | rfl | rfl
  · exact intsI_okB _
  · exact intsI_okB _
  · exact trivial
  · exact intsI_okB _
theorem odr_okB (o : Odr) : o.it.okB := lsI_okB fun x hx => by
  simp only [List.mem_cons, List.not_mem_nil, or_false] at hx
  rcases hx with rfl | rfl | rfl | rfl | rfl
  · exact trivial
  · exact strBy _ _
  · refine lsI_okB fun x hx => ?_
    simp only [List.mem_cons, List.not_mem_nil, or_false] at hx
    rcases hx with rfl | rfl | rfl | rfl
    · exact intsI_okB _
    · exact intsI_okB _
    · exact trivial
    · exact intsI_okB _
  · exact fun i _ => prt_okB _
  · exact trivial
theorem lnk_okB {o : Odr} {d : Nat → Int} (h : byB d 32) : (lnkI d o).okB := lsI_okB fun x hx => by
  simp only [List.mem_cons, List.not_mem_nil, or_false] at hx
  rcases hx with rfl | rfl
  · exact h
  · exact odr_okB o
theorem lnkD_by (h : Nat → Int) (o : Odr) (n : Nat) : byB (lnkD h o) n := tagI_by _ _ n

def lkF (f : Nat → Odr) : Nat → Nat → Int
  | 0 => fun _ => 0
  | k + 1 => if (f k).key = 0 then lkF f k else lnkD (lkF f k) (f k)
def clF (f : Nat → Odr) : Nat → Nat
  | 0 => 0
  | k + 1 => if (f k).key = 0 then clF f k else clF f k + 1
theorem lkF_by (f : Nat → Odr) : ∀ k, byB (lkF f k) 32
  | 0 => fun _ _ => ⟨Int.le_refl _, by show (0 : Int) < 256; decide⟩
  | k + 1 => by
    rw [lkF]; split
    · exact lkF_by f k
    · exact lnkD_by _ _ _
theorem clF_le (f : Nat → Odr) : ∀ k, clF f k ≤ k
  | 0 => Nat.le_refl _
  | k + 1 => by have := clF_le f k; rw [clF]; split <;> omega
def plcB (t : Trl) (i : Nat) : Bool := ordB (t.ord i) && (t.ord i).num == (i : Int) && !((t.ord i).key == 0 && decide (i + 1 < t.n)) &&
  ((t.ord i).key == 0 || (decide (clF t.ord i < t.nl) && (List.range 32).all fun j => t.lnk (clF t.ord i) j == lkF t.ord (i + 1) j))
def trlB (t : Trl) : Bool := decide (t.n ≤ 100) && (List.range t.n).all (plcB t) && clF t.ord t.n == t.nl
theorem plc_closed {t : Trl} {k : Nat} (h : ∀ i, i < k → plcB t i = true) (hk : k < t.n) : clF t.ord k = k := by
  induction k with
  | zero => rfl
  | succ k ih =>
    have h1 := h k (by omega)
    simp only [plcB, Bool.and_eq_true, Bool.not_eq_true', Bool.and_eq_false_iff, decide_eq_false_iff_not, beq_eq_false_iff_ne] at h1
    rw [clF, ih (fun i hi => h i (by omega)) (by omega)]
    rw [if_neg]
    rcases h1.1.2 with h2 | h2
    · exact h2
    · omega
end Go.Sp

namespace Go.Proofs.YtbmdmoknnlhdoaaGreatDoor.Z
open Go Go.Am Go.Sp Go.Lib
set_option maxRecDepth 100000

theorem shp_eq (p : Prf) : (decide ((p.a.length : Int) ≤ 20) && decide ((p.z.length : Int) ≤ 20)) = shortP p := by
  unfold shortP
  exact congr (congrArg and (decide_eq_decide.2 (by omega))) (decide_eq_decide.2 (by omega))
theorem tshort_c (p : Prf) : Pure Tryz.prog gl0 108 [.agg p.cells] (.bool (shortP p)) := by
  refine pure_sk (own := ow0) Tryz.func108 (by kernel_rfl) mixed (by kernel_rfl)
    (.out (AV.bool (decide ((↑(List.length (Prf.a p)) : Int) ≤ (20 : Int)) && decide ((↑(List.length (Prf.z p)) : Int) ≤ (20 : Int)))) [] (AV.bool (shortP p)) [])
    (by kernel_rfl) ?_
  exact k_out (Ent.of_eq (congrArg AV.bool (shp_eq p)))

theorem rshort_c (p : Prf) : Pure Tryz.prog gl0 117 [.agg p.cells] (.bool (shortP p)) := by
  refine pure_sk (own := ow0) Tryz.func117 (by kernel_rfl) mixed (by kernel_rfl)
    (.out (AV.bool (decide ((↑(List.length (Prf.a p)) : Int) ≤ (20 : Int)) && decide ((↑(List.length (Prf.z p)) : Int) ≤ (20 : Int)))) [] (AV.bool (shortP p)) [])
    (by kernel_rfl) ?_
  exact k_out (Ent.of_eq (congrArg AV.bool (shp_eq p)))

theorem treason_c (s : Str) : Pure Tryz.prog gl0 107 [.str (bs s)] (.bool (decide (1 ≤ s.length) && decide (s.length ≤ 200))) := by
  refine pure_sk (own := ow0) Tryz.func107 (by kernel_rfl) mixed (by kernel_rfl)
    (.out (AV.bool (decide ((↑(ByteArray.size (bs s)) : Int) ≥ (1 : Int)) && decide ((↑(ByteArray.size (bs s)) : Int) ≤ (200 : Int)))) [] (AV.bool (decide ((1 : Nat) ≤ List.length s) && decide (List.length s ≤ (200 : Nat)))) [])
    (by kernel_rfl) ?_
  exact k_out (Ent.of_eq (congrArg AV.bool (by rw [bs_size]; exact congr (congrArg and (decide_eq_decide.2 (by omega))) (decide_eq_decide.2 (by omega)))))

theorem find1_c (p : Prt) (b : Int) : Pure Tryz.prog gl0 155 [.agg p.cells, .ipt 1 (atL [.int .i64 b])] (.bool (p.idx == b)) := by
  refine pure_sk (own := ow0) Tryz.func155 (by kernel_rfl) mixed (by kernel_rfl)
    (.out (AV.bool (p.1 == b)) [] (AV.bool (Prt.idx p == b)) [])
    (by kernel_rfl) ?_
  exact k_out (Ent.refl _)

theorem indexP_c (f : Nat → Prt) (n : Nat) (b : Int) (hn : n < 9223372036854775808) : Pure Tryz.prog gl0 61 [prtA n f, .fn (.func 155) [] [.ipt 1 (atL [.int .i64 b])]] (.int .i64 (firstI (fun i => (f i).idx == b) n 0)) := by
  have c1 := fun i => find1_c (f i) b
  refine pure_sk (own := ow0) Tryz.func61 (by kernel_rfl) mixed (by kernel_rfl)
    (.loop (Sp.Sub fun (i : Nat) => firstI (fun (i : Nat) => Prt.idx (f i) == b) n (0 : Nat) = firstI (fun (i : Nat) => Prt.idx (f i) == b) (n - i) i) (fun (x : Sp.Sub fun (i : Nat) => firstI (fun (i : Nat) => Prt.idx (f i) == b) n (0 : Nat) = firstI (fun (i : Nat) => Prt.idx (f i) == b) (n - i) i) => mkSt [0, 1, 6, 7, 8] [prtA n f, AV.fn (Fn.func (155 : FuncId)) [] [AV.ipt (1 : Nat) (atL [Zi b])], prtA n f, Zi (↑n : Int), Zi (↑(x.1) : Int)] []) (fun (i : Sp.Sub fun (i : Nat) => firstI (fun (i : Nat) => Prt.idx (f i) == b) n (0 : Nat) = firstI (fun (i : Nat) => Prt.idx (f i) == b) (n - i) i) => n - i.1) (⟨(0 : Nat), rfl⟩) ([0, 1, 6, 7, 8]) ([]) ([AV.isl (5) n fun (i j : Nat) => atL (Prt.cells (f i)) j, AV.fn (Fn.func (155 : FuncId)) [] [AV.ipt (1) (atL [Zi b])], AV.isl (5) n fun (i j : Nat) => atL (Prt.cells (f i)) j, Zi (↑n : Int), Zi 0]) ([]) (fun x0 => (.br (decide ((↑x0.1 : Int) < (↑n : Int))) (.req ((0 : Int) ≤ (↑x0.1 : Int) ∧ (↑x0.1 : Int) < (↑n : Int)) (.sc (true) 155 ([AV.agg (Prt.cells (f (Int.toNat (↑(x0.1) : Int)))), AV.ipt (1) (atL [Zi b])]) (AV.bool (Prt.idx (f (Int.toNat (↑(x0.1) : Int))) == b)) (.br ((f (Int.toNat (↑(x0.1) : Int))).1 == b) (.out (Zi (↑x0.1 : Int)) [] (Zi (firstI (fun (i : Nat) => Prt.idx (f i) == b) n (0 : Nat))) []) (.again (Again (0) (fun (x : Sp.Sub fun (i : Nat) => firstI (fun (i : Nat) => Prt.idx (f i) == b) n (0 : Nat) = firstI (fun (i : Nat) => Prt.idx (f i) == b) (n - i) i) => mkSt [0, 1, 6, 7, 8] [prtA n f, AV.fn (Fn.func (155 : FuncId)) [] [AV.ipt (1 : Nat) (atL [Zi b])], prtA n f, Zi (↑n : Int), Zi (↑(x.1) : Int)] []) (fun (i : Sp.Sub fun (i : Nat) => firstI (fun (i : Nat) => Prt.idx (f i) == b) n (0 : Nat) = firstI (fun (i : Nat) => Prt.idx (f i) == b) (n - i) i) => n - i.1) x0) ([0, 1, 6, 7, 8]) ([]) ([AV.isl (5) n fun (i j : Nat) => atL (Prt.cells (f i)) j, AV.fn (Fn.func (155 : FuncId)) [] [AV.ipt (1) (atL [Zi b])], AV.isl (5) n fun (i j : Nat) => atL (Prt.cells (f i)) j, Zi (↑n : Int), Zi (IntKind.wrap IntKind.i64 ((↑x0.1 : Int) + (1 : Int)))]) ([]))))) (.out (Zi (-1)) [] (Zi (firstI (fun (i : Nat) => Prt.idx (f i) == b) n (0 : Nat))) []))))
    (by kernel_rfl) ?_
  refine k_loop (fun _ hs => hs.le (by repeat' (first | exact trivial | (first | exact Ent.refl _ | exact inc_ent (by omega) | exact Ent.nil rfl | exact Ent.of_eq (congrArg (AV.osl _ _ _) (by first | omega | (dsimp only; omega))) | exact Ent.of_eq (congrArg (AV.int _) (by first | omega | (dsimp only; omega)))) | refine And.intro ?_ ?_)) (trivial)) (fun x0 => ?_)
  try (have q0 := x0.2; dsimp only at q0)
  refine k_br (fun h1 => ?_) (fun h1 => ?_)
  · have g1 := cnd_dec_t h1
    refine k_req (by first | omega | (simp only [Int.toNat_natCast]; omega)) ?_
    refine k_sc (c1 (Int.toNat (↑(x0.1) : Int))) ?_
    refine k_br (fun h4 => ?_) (fun h4 => ?_)
    · have g4 := cnd_beq_t h4
      try simp only [Int.toNat_natCast] at g4
      exact k_out (Ent.of_eq (congrArg _ (first_hit x0.2 (show x0.1 < n by omega) (by simpa using h4))))
    · have g4 := cnd_beq_f h4
      try simp only [Int.toNat_natCast] at g4
      exact k_again (⟨x0.1 + 1, first_next x0.2 (show x0.1 < n by omega) (by simpa using h4)⟩) (fun _ hs => hs.le (⟨Ent.refl _, Ent.refl _, Ent.refl _, Ent.refl _, inc_ent (by omega), trivial⟩) (trivial)) (by first | omega | (dsimp only; omega) | (simp; omega))
  · have g1 := cnd_dec_f h1
    exact k_out (Ent.of_eq (congrArg _ (first_miss x0.2 (by omega))))

theorem tfind_c (f : Nat → Prt) (n : Nat) (b : Int) (hn : n < 9223372036854775808) : Pure Tryz.prog gl0 109 [prtA n f, .int .i64 b] (.int .i64 (firstI (fun i => (f i).idx == b) n 0)) := by
  have c1 := indexP_c f n b hn
  refine pure_sk (own := ow0) Tryz.func109 (by kernel_rfl) mixed (by kernel_rfl)
    (.sc (true) 61 ([AV.isl (5) n fun (i j : Nat) => atL (Prt.cells (f i)) j, AV.fn (Fn.func (155 : Nat)) [] [AV.ipt (1) fun (k : Nat) => atL [Zi b] k]]) (Zi (firstI (fun (i : Nat) => Prt.idx (f i) == b) n (0 : Nat))) (.out (Zi (firstI (fun (i : Nat) => (f i).1 == b) n (0))) [] (Zi (firstI (fun (i : Nat) => Prt.idx (f i) == b) n (0 : Nat))) []))
    (by kernel_rfl) ?_
  refine k_sc (c1) ?_
  exact k_out (Ent.refl _)

def hasP (f : Nat → Prt) (n : Nat) (b : Int) : Bool := (List.range n).any fun j => (f j).idx == b
theorem has_t {f : Nat → Prt} {n i : Nat} {b : Int} (hi : i < n) (h : (f i).idx = b) : true = hasP f n b := by
  unfold hasP; exact (List.any_eq_true.2 ⟨i, List.mem_range.2 hi, by simpa using h⟩).symm
theorem has_f {f : Nat → Prt} {n : Nat} {b : Int} (h : ∀ j, j < n → ¬ (f j).idx = b) : false = hasP f n b := by
  unfold hasP; exact (List.any_eq_false.2 fun j hj => by simpa using h j (List.mem_range.1 hj)).symm
theorem rhas_c (f : Nat → Prt) (n : Nat) (b : Int) (hn : n ≤ 1000) : Pure Tryz.prog gl0 118 [prtA n f, .int .i64 b] (.bool (hasP f n b)) := by
  refine pure_sk (own := ow0) Tryz.func118 (by kernel_rfl) mixed (by kernel_rfl)
    (.loop ({ x : Nat // x ≤ n ∧ (fun (x : Nat) => ∀ (j : Nat), j < x → ¬Prt.idx (f j) = b) x }) (fun (x : { x : Nat // x ≤ n ∧ (fun (x : Nat) => ∀ (j : Nat), j < x → ¬Prt.idx (f j) = b) x }) => mkSt [0, 1, 5] [AV.isl (5) n fun (i j : Nat) => atL (Prt.cells (f i)) j, Zi b, Zi (↑(x.1) : Int)] []) (fun (x : { x : Nat // x ≤ n ∧ (fun (x : Nat) => ∀ (j : Nat), j < x → ¬Prt.idx (f j) = b) x }) => n - x.1) (⟨(0 : Nat), ⟨Nat.zero_le n, fun (j : Nat) (hj : j < (0 : Nat)) => absurd hj (Nat.not_lt_zero j)⟩⟩) ([0, 1, 5]) ([]) ([AV.isl (5) n fun (i j : Nat) => atL (Prt.cells (f i)) j, Zi b, Zi 0]) ([]) (fun x0 => (.br (decide ((↑x0.1 : Int) < (↑n : Int))) (.req ((0 : Int) ≤ (↑x0.1 : Int) ∧ (↑x0.1 : Int) < (↑n : Int)) (.br ((f (Int.toNat (↑(x0.1) : Int))).1 == b) (.out (AV.bool true) [] (AV.bool (hasP f n b)) []) (.again (Again (0) (fun (x : { x : Nat // x ≤ n ∧ (fun (x : Nat) => ∀ (j : Nat), j < x → ¬Prt.idx (f j) = b) x }) => mkSt [0, 1, 5] [AV.isl (5) n fun (i j : Nat) => atL (Prt.cells (f i)) j, Zi b, Zi (↑(x.1) : Int)] []) (fun (x : { x : Nat // x ≤ n ∧ (fun (x : Nat) => ∀ (j : Nat), j < x → ¬Prt.idx (f j) = b) x }) => n - x.1) x0) ([0, 1, 5]) ([]) ([AV.isl (5) n fun (i j : Nat) => atL (Prt.cells (f i)) j, Zi b, Zi (IntKind.wrap IntKind.i64 ((↑x0.1 : Int) + (1 : Int)))]) ([])))) (.out (AV.bool false) [] (AV.bool (hasP f n b)) []))))
    (by kernel_rfl) ?_
  refine k_loop (fun _ hs => hs.le (by repeat' (first | exact trivial | (first | exact Ent.refl _ | exact inc_ent (by omega) | exact Ent.nil rfl | exact Ent.of_eq (congrArg (AV.osl _ _ _) (by first | omega | (dsimp only; omega))) | exact Ent.of_eq (congrArg (AV.int _) (by first | omega | (dsimp only; omega)))) | refine And.intro ?_ ?_)) (trivial)) (fun x0 => ?_)
  try (have q0 := x0.2; dsimp only at q0)
  refine k_br (fun h1 => ?_) (fun h1 => ?_)
  · have g1 := cnd_dec_t h1
    refine k_req (by first | omega | (simp only [Int.toNat_natCast]; omega)) ?_
    refine k_br (fun h3 => ?_) (fun h3 => ?_)
    · have g3 := cnd_beq_t h3
      try simp only [Int.toNat_natCast] at g3
      exact k_out (Ent.of_eq (congrArg AV.bool (has_t (i := x0.1) (by omega) g3)))
    · have g3 := cnd_beq_f h3
      try simp only [Int.toNat_natCast] at g3
      exact k_again (⟨x0.1 + 1, by omega, fun j hj => by rcases Nat.lt_succ_iff_lt_or_eq.1 hj with hj | rfl; (· exact x0.2.2 j hj); (· exact g3)⟩) (fun _ hs => hs.le (by repeat' (first | exact trivial | (first | exact Ent.refl _ | exact inc_ent (by omega) | exact Ent.nil rfl | exact Ent.of_eq (congrArg (AV.osl _ _ _) (by first | omega | (dsimp only; omega))) | exact Ent.of_eq (congrArg (AV.int _) (by first | omega | (dsimp only; omega)))) | refine And.intro ?_ ?_)) (trivial)) (by first | omega | (dsimp only; omega) | (simp; omega))
  · have g1 := cnd_dec_f h1
    exact k_out (Ent.of_eq (congrArg AV.bool (has_f (fun j hj => x0.2.2 j (by omega)))))

theorem tnumber_c (x : Int) : Pure Tryz.prog gl0 156 [.int .i64 x] (It.int x).av := by
  refine pure_sk (own := ow0) Tryz.func156 (by kernel_rfl) mixed (by kernel_rfl)
    (.out (AV.agg [Zi 1, Zi x, AV.nsl, AV.nsl]) [] (It.av (It.int x)) [])
    (by kernel_rfl) ?_
  exact k_out (Ent.agg (int_row rfl))

theorem rinteger_c (x : Int) : Pure Tryz.prog gl0 164 [.int .i64 x] (It.int x).av := by
  refine pure_sk (own := ow0) Tryz.func164 (by kernel_rfl) mixed (by kernel_rfl)
    (.out (AV.agg [Zi 1, Zi x, AV.nsl, AV.nsl]) [] (It.av (It.int x)) [])
    (by kernel_rfl) ?_
  exact k_out (Ent.agg (int_row rfl))

theorem ttext_c (f : Nat → Int) (n : Nat) : Pure Tryz.prog gl0 112 [bys n f] (It.byt n f).av := by
  refine pure_sk (own := ow0) Tryz.func112 (by kernel_rfl) mixed (by kernel_rfl)
    (.out (AV.agg [Zi 2, Zi 0, AV.isl (1) n fun (i x : Nat) => Zb (f i), AV.nsl]) [] (It.av (It.byt n f)) [])
    (by kernel_rfl) ?_
  exact k_out (Ent.agg (byt_row n f))

end Go.Proofs.YtbmdmoknnlhdoaaGreatDoor.Z

namespace Go.Sp
open Go Go.Am Go.Lib

theorem firstI_at {p : Nat → Bool} : ∀ k i j, i ≤ j → j < i + k → p j = true → firstI p k i ≤ j
  | 0, i, j, h1, h2, _ => by omega
  | k + 1, i, j, h1, h2, h3 => by
    rw [firstI]
    split
    · omega
    · next h =>
      have : i ≠ j := fun e => h (by rw [e]; exact h3)
      exact firstI_at k (i + 1) j (by omega) (by omega) h3
theorem firstI_run {p : Nat → Bool} {n : Nat} : ∀ i, i ≤ n → (∀ j, j < i → p j = false) → firstI p n 0 = firstI p (n - i) i
  | 0, _, _ => rfl
  | i + 1, h, hp => by
    rw [firstI_run i (by omega) (fun j hj => hp j (by omega)), firstI_step (by omega), hp i (by omega)]; rfl
theorem firstI_is {p : Nat → Bool} {n i : Nat} (hi : i < n) (h : p i = true) : firstI p n 0 = (i : Int) ↔ ∀ j, j < i → p j = false := by
  constructor
  · intro e j hj
    cases hp : p j with
    | false => rfl
    | true => have := firstI_at n 0 j (Nat.zero_le _) (by omega) hp; omega
  · intro hp
    rw [firstI_run i (by omega) hp, firstI_step hi, h]; rfl

theorem headB_iff {o : Odr} : headB o = true ↔ 0 ≤ o.num ∧ o.num < 100 ∧ 1 ≤ o.why.length ∧ o.why.length ≤ 200 ∧ shortP o.prf = true ∧ o.np ≤ 8 ∧ 0 ≤ o.key := by
  simp [headB, and_assoc]
theorem prtB_iff {f : Nat → Prt} {i : Nat} : prtB f i = true ↔ 1 ≤ (f i).idx ∧ (f i).idx ≤ 8 ∧ (∀ j, j < i → ((f j).idx == (f i).idx) = false) ∧ shortP (f i).prf = true := by
  simp [prtB, and_assoc]
theorem ordB_h {o : Odr} (h : headB o = true → False) : false = ordB o := by
  unfold ordB
  cases e : headB o with
  | false => rfl
  | true => exact (h e).elim
theorem ordB_p {o : Odr} {i : Nat} (hi : i < o.np) (h : prtB o.part i = true → False) : false = ordB o := by
  unfold ordB
  have : (List.range o.np).all (prtB o.part) = false := by
    cases e : (List.range o.np).all (prtB o.part) with
    | false => rfl
    | true => exact (h (List.all_eq_true.1 e i (List.mem_range.2 hi))).elim
  rw [this, Bool.and_false]
theorem ordB_t {o : Odr} (h : headB o = true) (hp : ∀ i, i < o.np → prtB o.part i = true) : true = ordB o := by
  unfold ordB
  rw [h, List.all_eq_true.2 fun i hi => hp i (List.mem_range.1 hi)]; rfl
end Go.Sp
