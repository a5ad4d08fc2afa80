/- SupplyLists and SupplyAdds return true for every input, and the input reads behind the call as it read before; no conditions. -/
import Derived.Test.YtbmdmoknnlhdoaaRows
import Derived.Test.YtbmdmoknnlhdoaaM7
namespace Go.Proofs.Ytbmdmoknnlhdoaa
open Go.ChangeShapes Go.WideShapes Go.ChangeAt Go.RowKit Go.Am Go.Sp

theorem Try.own : ownKnob Try.prog.godebug = none := by kernel_rfl
theorem Try.laidOut : laidOutB Try.prog = true := by kernel_rfl

set_option maxRecDepth 100000 in
theorem supplyLists_lifted (os : Os) (started : os.Started) (H : Type) (enc : TypeId × Value → H) :
    ReturnsInHanded {} Try.checked os 4 .any (Rows.supplyListsSpec.pre6 enc Try.prog Try.f4 Rows.supplyListsRow.domain false) (Rows.supplyListsSpec.post enc Try.prog Try.f4 false true false false) := by
  refine returnsInHanded_of_change (C := Try.checked) Try.own started (by kernel_rfl) Try.func4
    (ChangeSpec.witness6 (enc := enc) (C := Try.checked) false ⟨#[], #[.agg (Array.replicate 7 (.int .i64 0)), .slice none 0 0, .slice none 0 0, .slice none 0 0], []⟩ 8 (by kernel_rfl) (by kernel_rfl) (by kernel_rfl) (by kernel_rfl)) ?_
  intro W base args ds gs before hval0 hW hcnd _
  have hW' := hW
  obtain ⟨p, q, hA0, hV, rfl, hfz, hnd⟩ := hW
  have hA : DataW.TrodAll enc Try.prog W 0 (fun _ => true) true Try.f4.params.toList args.toList ds p := hA0
  obtain ⟨G, hG, hR, f, hds⟩ := open_all (S := [(true, i64s 7), (false, [.sl (i64s 7)]), (false, [.sl (i64s 7)]), (false, [.sl guiltT])]) 0 (by kernel_rfl) hA (fun j t v ht hv => hval0 j t v (by simpa using ht) (by simpa using hv))
  refine ((supplyLists_c (supOf (G 0)) (islN (G 1 0)) (islN (G 2 0)) (islN (G 3 0)) (fun i => supOf (islF (G 1 0) i)) (fun i => supOf (islF (G 2 0) i)) (fun i => guOf (islF (G 3 0) i)) (sl_len (hG 1 _ rfl 0 _ rfl)) (sl_len (hG 2 _ rfl 0 _ rfl)) (sl_len (hG 3 _ rfl 0 _ rfl))).via (args := [.agg (supOf (G 0)).cells, .isl 7 (islN (G 1 0)) fun i j => .int .i64 (intOfAV (islF (G 1 0) i j)), .isl 7 (islN (G 2 0)) fun i j => .int .i64 (intOfAV (islF (G 2 0) i j)), gusA (islN (G 3 0)) fun i => guOf (islF (G 3 0) i)]) ⟨Ent.refl _, sups_e, sups_e, Ent.refl _, trivial⟩).calls (fun g m h hg => by cases hg) hR (fun W2 hB => ⟨_, rfl, ?_⟩)
  exact post_law (tb := 4) Try.laidOut rfl (by kernel_rfl) (by kernel_rfl) (by kernel_rfl) hW' hB (by rw [hds]; rfl)

theorem supplyLists_holds : Rows.SupplyListsSaid :=
  OpenClaim.holds_of_wide 4 Try.f4 rfl rfl rfl rfl rfl rfl rfl ⟨rfl, rfl, rfl, rfl, rfl⟩ rfl rfl rfl rfl rfl (by kernel_rfl) Try.func4 (by kernel_rfl)
    (of_decide_eq_true (by kernel_rfl)) (by unfold Func.isWrapper; first | (rw [if_pos (by decide +kernel)]; kernel_rfl) | (rw [if_neg (by decide +kernel)]; exact ⟨rfl, rfl⟩))
    (fun os started H enc _ => supplyLists_lifted os started H enc)

set_option maxRecDepth 100000 in
theorem supplyAdds_lifted (os : Os) (started : os.Started) (H : Type) (enc : TypeId × Value → H) :
    ReturnsInHanded {} Try.checked os 3 .any (Rows.supplyAddsSpec.pre6 enc Try.prog Try.f3 Rows.supplyAddsRow.domain false) (Rows.supplyAddsSpec.post enc Try.prog Try.f3 false true false false) := by
  refine returnsInHanded_of_change (C := Try.checked) Try.own started (by kernel_rfl) Try.func3
    (ChangeSpec.witness6 (enc := enc) (C := Try.checked) false ⟨#[], #[.slice none 0 0, .slice none 0 0], []⟩ 8 (by kernel_rfl) (by kernel_rfl) (by kernel_rfl) (by kernel_rfl)) ?_
  intro W base args ds gs before hval0 hW hcnd _
  have hW' := hW
  obtain ⟨p, q, hA0, hV, rfl, hfz, hnd⟩ := hW
  have hA : DataW.TrodAll enc Try.prog W 0 (fun _ => true) true Try.f3.params.toList args.toList ds p := hA0
  obtain ⟨G, hG, hR, f, hds⟩ := open_all (S := [(false, [.sl (i64s 7)]), (false, [.sl (i64s 7)])]) 0 (by kernel_rfl) hA (fun j t v ht hv => hval0 j t v (by simpa using ht) (by simpa using hv))
  refine ((supplyAdds_c (islN (G 0 0)) (islN (G 1 0)) (fun i => supOf (islF (G 0 0) i)) (fun i => supOf (islF (G 1 0) i)) (sl_len (hG 0 _ rfl 0 _ rfl)) (sl_len (hG 1 _ rfl 0 _ rfl))).via (args := [.isl 7 (islN (G 0 0)) fun i j => .int .i64 (intOfAV (islF (G 0 0) i j)), .isl 7 (islN (G 1 0)) fun i j => .int .i64 (intOfAV (islF (G 1 0) i j))]) ⟨sups_e, sups_e, trivial⟩).calls (fun g m h hg => by cases hg) hR (fun W2 hB => ⟨_, rfl, ?_⟩)
  exact post_law (tb := 4) Try.laidOut rfl (by kernel_rfl) (by kernel_rfl) (by kernel_rfl) hW' hB (by rw [hds]; rfl)

theorem supplyAdds_holds : Rows.SupplyAddsSaid :=
  OpenClaim.holds_of_wide 3 Try.f3 rfl rfl rfl rfl rfl rfl rfl ⟨rfl, rfl, rfl, rfl, rfl⟩ rfl rfl rfl rfl rfl (by kernel_rfl) Try.func3 (by kernel_rfl)
    (of_decide_eq_true (by kernel_rfl)) (by unfold Func.isWrapper; first | (rw [if_pos (by decide +kernel)]; kernel_rfl) | (rw [if_neg (by decide +kernel)]; exact ⟨rfl, rfl⟩))
    (fun os started H enc _ => supplyAdds_lifted os started H enc)

end Go.Proofs.Ytbmdmoknnlhdoaa
