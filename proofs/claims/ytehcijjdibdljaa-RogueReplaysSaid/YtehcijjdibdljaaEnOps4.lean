/-
  The engine, part 3d: 'mstep' is right: addresses, slices, and the theorem for all.
-/
import Derived.Test.YtehcijjdibdljaaEnOps3
namespace Go.Am
open Go.RowKit

section
variable {P : Program} {β : Book} {w : World} {ρ : Operand → AV} {σ : Operand → Value} {H : Heap} {nid : Nat}
variable {v : AV} {q : Rq} {ob : Option Ob} {dst : Option Tmp} {ty : TypeId} {pos : String} {after : Array Edge} {g : Option (Nat × Bool)}

theorem own_addr {id es i j m : Nat} {u : Value} {o : Ob} (hH : HeapOk β w H) (hr : Rel β w (.own id es i j m) u) (hid : H id = some o) :
    ∃ b n mu, u = .pointer (some ⟨b, i * es + j, none⟩) ∧ β.m id = some (.lives b n mu) ∧ i < n ∧ j + m ≤ es := by
  cases hr with
  | own h hi hj => exact ⟨_, _, _, rfl, h, hi, hj⟩
  | ownD h => exact (hH.dead hid h).elim

theorem oel_addr {id es i base len k : Nat} {u : Value} {o : Ob} (hH : HeapOk β w H) (hr : Rel β w (.oel id es i base len k) u) (hid : H id = some o) :
    ∃ b n mu, u = .pointer (some ⟨b, i * es + (base + k), none⟩) ∧ β.m id = some (.lives b n mu) ∧ i < n ∧ k < len ∧ base + len ≤ es := by
  cases hr with
  | oel h hi hk hl => exact ⟨_, _, _, rfl, h, hi, hk, hl⟩
  | oelD h => exact (hH.dead hid h).elim

theorem osl_inv {id es i len : Nat} {u : Value} {o : Ob} (hH : HeapOk β w H) (hr : Rel β w (.osl id es i len) u) (hid : H id = some o) :
    (∃ (b n cap sz : Nat) (mu : Bool) (el : TypeId), u = .slice (some ⟨b, i * es, none⟩) len cap ∧ β.m id = some (.lives b n mu) ∧ i + len ≤ n ∧ len ≤ cap ∧ w.shape? b = some (el, sz) ∧ (i + cap) * es ≤ sz) ∨
    (len = 0 ∧ ∃ a, u = .slice a 0 0) := by
  cases hr with
  | osl h hn hc hs hz => exact .inl ⟨_, _, _, _, _, _, rfl, h, hn, hc, hs, hz⟩
  | osl0 h => exact .inr ⟨rfl, _, rfl⟩
  | oslD h => exact (hH.dead hid h).elim

theorem fieldAddr_ok {s : TypeId} {x : Operand} {k : Nat} (hH : HeapOk β w H) (hρ : Rel β w (ρ x) (σ x)) (h : mstep P ρ H nid (.fieldAddr s x k) = some (q, v, ob)) :
    MOk β w nid ((execOp σ ⟨dst, .fieldAddr s x k, ty, pos, after, g⟩).run P w) v ob := by
  simp only [mstep] at h
  split at h
  · rename_i fields hu
    split at h
    · rename_i f hf
      split at h
      · rename_i z id es i j m hz hx
        split at h
        · rename_i o ho
          obtain ⟨hc, h⟩ := bif_some h
          cases h
          rw [Bool.and_eq_true, Nat.blt_eq, Nat.ble_eq] at hc
          rw [hx] at hρ
          obtain ⟨b, n, mu, hu', hb, hi, hj⟩ := own_addr hH hρ ho
          refine ⟨.pointer (some ⟨b, i * es + (j + f.offset), none⟩), ?_, .own hb hi (by omega)⟩
          simp only [execOp, Instr.fieldAt, hu', Instr.sureAddr, Sem.run_bind, run_underlying hu, Result.andThen_ok, hf, Sem.run_pure, fieldPlace, szT_run w hz, Sem.run_ite, if_neg (show ¬ z = 0 by omega), add_mk, Nat.add_assoc]
        · cases h
      · rename_i z m gg hz hx
        obtain ⟨hc, h⟩ := bif_some h
        cases h
        rw [Bool.and_eq_true, Nat.blt_eq, Nat.ble_eq] at hc
        rw [hx] at hρ
        obtain ⟨b, off, vals, hu', hm, hb, hcell, hr, hcl, hoc⟩ := rel_ipt_inv hρ
        refine ⟨.pointer (some ⟨b, off + f.offset, none⟩), ?_, .ipt (fun j => vals (f.offset + j)) hc.1 hb (fun j hj => ?_) (fun j hj => hoc _ (by omega)) (fun j hj => hr _ (by omega)) (fun j hj => hcl _ (by omega))⟩
        · simp only [execOp, Instr.fieldAt, hu', Instr.sureAddr, Sem.run_bind, run_underlying hu, Result.andThen_ok, hf, Sem.run_pure, fieldPlace, szT_run w hz, Sem.run_ite, if_neg (show ¬ z = 0 by omega), add_mk]
        · rw [Nat.add_assoc]; exact hcell _ (by omega)
      · cases h
    · cases h
  · cases h

theorem asIntOf_run (k : IntKind) (n : Int) : (asIntOf (.int k n)).run P w = .ok (k, n) w := rfl

theorem indexAddr_ok {t : TypeId} {x ix : Operand} (hH : HeapOk β w H) (hρ : Rel β w (ρ x) (σ x)) (hix : Rel β w (ρ ix) (σ ix)) (h : mstep P ρ H nid (.indexAddr t x ix) = some (q, v, ob)) (hq : q.holds) :
    MOk β w nid ((execOp σ ⟨dst, .indexAddr t x ix, ty, pos, after, g⟩).run P w) v ob := by
  simp only [mstep] at h
  split at h
  · rename_i e k hu hk
    obtain ⟨kk, hk⟩ := asIdx_eq hk
    rw [hk] at hix
    have hiv := rel_int_inv hix
    split at h
    · rename_i z es n f hz hx
      obtain ⟨hc, h⟩ := bif_some h
      cases h
      rw [Bool.and_eq_true, Nat.blt_eq] at hc
      have hes := Nat.eq_of_beq_eq_true hc.1
      subst hes
      obtain ⟨hk0, hkn⟩ : 0 ≤ k ∧ k < n := hq
      rw [hx] at hρ
      obtain ⟨a, cap, hs, _, _, hrest⟩ := rel_isl_inv hρ
      obtain ⟨b, off, vals, rfl, he, hb, hcell, hr, hcl, hoc⟩ := hrest (by omega)
      refine ⟨.pointer (some ⟨b, off + k.toNat * z, none⟩), ?_, .ipt (fun j => vals k.toNat j) he hb (fun j hj => hcell _ _ (by omega) hj) (fun j hj => hoc _ _ (by omega) hj) (fun j hj => hr _ _ (by omega) hj) (fun j hj => hcl _ _ (by omega) hj)⟩
      simp only [execOp, Instr.indexAt, hiv, hs, asIntOf_run, Sem.run_bind, run_underlying hu, Result.andThen_ok, Sem.run_pure, Sem.run_ite, szT_run w hz, if_pos (show 0 ≤ k ∧ k < (n : Int) from ⟨hk0, hkn⟩), add_mk]
    · rename_i z id es i len hz hx
      split at h
      · rename_i o ho
        obtain ⟨hc, h⟩ := bif_some h
        cases h
        have hes := Nat.eq_of_beq_eq_true hc
        subst hes
        obtain ⟨hk0, hkn⟩ : 0 ≤ k ∧ k < len := hq
        rw [hx] at hρ
        rcases osl_inv hH hρ ho with ⟨b, n, cap, sz, mu, el, hsx, hb, hn, hcap, hsh, hsz⟩ | ⟨h0, _⟩
        · refine ⟨.pointer (some ⟨b, (k.toNat + i) * z + 0, none⟩), ?_, .own hb (by omega) (by omega)⟩
          have e : i * z + k.toNat * z = (k.toNat + i) * z := by rw [Nat.add_mul, Nat.add_comm]
          simp only [execOp, Instr.indexAt, hiv, hsx, asIntOf_run, Sem.run_bind, run_underlying hu, Result.andThen_ok, Sem.run_pure, Sem.run_ite, szT_run w hz, if_pos (show 0 ≤ k ∧ k < (len : Int) from ⟨hk0, hkn⟩), add_mk, e, Nat.add_zero]
        · omega
      · cases h
    · cases h
  · rename_i len e k hu hk
    obtain ⟨kk, hk⟩ := asIdx_eq hk
    rw [hk] at hix
    have hiv := rel_int_inv hix
    have le : ∀ m z : Nat, len * z ≤ m → k < len → 0 ≤ k → k.toNat * z + z ≤ m := fun m z h1 h2 h3 => by
      have h4 : k.toNat + 1 ≤ len := by omega
      have := Nat.mul_le_mul_right z h4
      rw [Nat.add_mul] at this
      omega
    split at h
    · rename_i z id es i j m hz hx
      split at h
      · rename_i o ho
        obtain ⟨hc, h⟩ := bif_some h
        rw [Bool.and_eq_true, Nat.blt_eq, Nat.ble_eq] at hc
        rw [hx] at hρ
        obtain ⟨b, n, mu, hu', hb, hi, hj⟩ := own_addr hH hρ ho
        split at h
        · cases h
          obtain ⟨hk0, hkn⟩ : 0 ≤ k ∧ k < len := hq
          have hle := le m 1 hc.1 hkn hk0
          refine ⟨.pointer (some ⟨b, i * es + (j + k.toNat), none⟩), ?_, .oel hb hi (by omega) (by omega)⟩
          simp only [execOp, Instr.indexAt, hiv, hu', Instr.sureAddr, asIntOf_run, Sem.run_bind, run_underlying hu, Result.andThen_ok, Sem.run_pure, Sem.run_ite, szT_run w hz, if_pos (show 0 ≤ k ∧ k < (len : Int) from ⟨hk0, hkn⟩), add_mk, Nat.add_assoc, Nat.mul_one]
        rename_i z _ hc hz _
        cases h
        obtain ⟨hk0, hkn⟩ : 0 ≤ k ∧ k < len := hq
        have hle := le m z hc.1 hkn hk0
        refine ⟨.pointer (some ⟨b, i * es + (j + k.toNat * z), none⟩), ?_, .own hb hi (by omega)⟩
        simp only [execOp, Instr.indexAt, hiv, hu', Instr.sureAddr, asIntOf_run, Sem.run_bind, run_underlying hu, Result.andThen_ok, Sem.run_pure, Sem.run_ite, szT_run w hz, if_pos (show 0 ≤ k ∧ k < (len : Int) from ⟨hk0, hkn⟩), add_mk, Nat.add_assoc]
      · cases h
    · rename_i z m gg hz hx
      obtain ⟨hc, h⟩ := bif_some h
      rw [Bool.and_eq_true, Nat.blt_eq, Nat.ble_eq] at hc
      rw [hx] at hρ
      obtain ⟨b, off, vals, hu', hm, hb, hcell, hr, hcl, hoc⟩ := rel_ipt_inv hρ
      split at h
      · split at h
        · rename_i kk2 hkk
          cases h
          obtain ⟨hk0, hkn⟩ : 0 ≤ k ∧ k < len := hq
          have hle := le m 1 hc.1 hkn hk0
          obtain ⟨y, hy⟩ := kindAll_spec hkk k.toNat (by omega)
          have hy' : AV.int kk2 (intOfAV (gg k.toNat)) = gg k.toNat := by rw [hy]; rfl
          refine ⟨.pointer (some ⟨b, off + k.toNat, none⟩), ?_, ?_⟩
          · simp only [execOp, Instr.indexAt, hiv, hu', Instr.sureAddr, asIntOf_run, Sem.run_bind, run_underlying hu, Result.andThen_ok, Sem.run_pure, Sem.run_ite, szT_run w hz, if_pos (show 0 ≤ k ∧ k < (len : Int) from ⟨hk0, hkn⟩), add_mk, Nat.mul_one]
          · rw [hy']
            refine .ipt (fun _ => vals k.toNat) (by omega) hb (fun j hj => ?_) (fun j hj => hoc _ (by omega)) (fun j hj => hr _ (by omega)) (fun j hj => hcl _ (by omega))
            have : j = 0 := by omega
            subst this
            exact hcell _ (by omega)
        · cases h
      rename_i z _ hc hz _
      cases h
      obtain ⟨hk0, hkn⟩ : 0 ≤ k ∧ k < len := hq
      have hle := le m z hc.1 hkn hk0
      refine ⟨.pointer (some ⟨b, off + k.toNat * z, none⟩), ?_, .ipt (fun j => vals (k.toNat * z + j)) hc.2 hb (fun j hj => ?_) (fun j hj => hoc _ (by omega)) (fun j hj => hr _ (by omega)) (fun j hj => hcl _ (by omega))⟩
      · simp only [execOp, Instr.indexAt, hiv, hu', Instr.sureAddr, asIntOf_run, Sem.run_bind, run_underlying hu, Result.andThen_ok, Sem.run_pure, Sem.run_ite, szT_run w hz, if_pos (show 0 ≤ k ∧ k < (len : Int) from ⟨hk0, hkn⟩), add_mk]
      · rw [Nat.add_assoc]; exact hcell _ (by omega)
    · cases h
  · cases h

theorem index_ok {t : TypeId} {x ix : Operand} (hρ : Rel β w (ρ x) (σ x)) (hix : Rel β w (ρ ix) (σ ix)) (h : mstep P ρ H nid (.index t x ix) = some (q, v, ob)) (hq : q.holds) :
    MOk β w nid ((execOp σ ⟨dst, .index t x ix, ty, pos, after, g⟩).run P w) v ob := by
  simp only [mstep] at h
  split at h
  · rename_i s k hu hx hk
    obtain ⟨kk, hk⟩ := asIdx_eq hk
    rw [hk] at hix
    have hiv := rel_int_inv hix
    cases h
    obtain ⟨hk0, hkn⟩ : 0 ≤ k ∧ k < s.size := hq
    rw [hx] at hρ
    have hsv := rel_str_inv hρ
    have hlt : k.toNat < s.size := by omega
    have hg : s[k.toNat]? = some s[k.toNat] := by simp [hlt]
    refine ⟨.int .u8 (s.data.toList.getD k.toNat 0).toNat, ?_, .int⟩
    have e : s.data.toList.getD k.toNat 0 = s[k.toNat] := by
      rw [List.getD_eq_getElem?_getD, Array.getElem?_toList]
      have : s.data[k.toNat]? = some s[k.toNat] := by
        rw [Array.getElem?_eq_getElem (by simpa using hlt)]
        rfl
      simp [this]
    rw [e]
    simp only [execOp, Instr.index, hiv, hsv, asIntOf_run, Sem.run_bind, run_underlying hu, Result.andThen_ok, if_pos hk0, hg, Sem.run_pure]
  · rename_i len e cs k hu hx hk
    obtain ⟨kk, hk⟩ := asIdx_eq hk
    rw [hk] at hix
    have hiv := rel_int_inv hix
    split at h
    · rename_i k2 hue hse
      obtain ⟨hc, h⟩ := bif_some h
      cases h
      rw [Bool.and_eq_true] at hc
      have hlen := Nat.eq_of_beq_eq_true hc.1
      obtain ⟨hk0, hkn⟩ : 0 ≤ k ∧ k < len := hq
      rw [hx] at hρ
      obtain ⟨vs, hvs, hr⟩ := rel_agg_inv hρ
      have hlt : k.toNat < cs.length := by omega
      have hcell := List.all_eq_true.1 hc.2 cs[k.toNat] (List.getElem_mem hlt)
      obtain ⟨y, hy1, hy2⟩ := hr.at (j := k.toNat) (u := cs[k.toNat]) (by simp [hlt])
      have hag : isAggT P e = some false := by simp [isAggT, hue]
      cases hcs : cs[k.toNat] with
      | int kc n =>
        rw [hcs] at hcell hy2
        simp only [decide_eq_true_eq] at hcell
        subst hcell
        have := rel_int_inv hy2
        subst this
        refine ⟨.int kc n, ?_, ?_⟩
        · simp only [execOp, Instr.index, hiv, hvs, asIntOf_run, Sem.run_bind, run_underlying hu, Result.andThen_ok, Sem.run_ite, if_pos (show 0 ≤ k ∧ k < (len : Int) from ⟨hk0, hkn⟩), szT_run w hse, part, isAgg_run w hag, Nat.mul_one, hy1]
          simp
        · rw [atL_of (u := .int kc n) (by rw [← hcs]; simp [hlt])]
          exact .int
      | _ => rw [hcs] at hcell; simp at hcell
    · cases h
  · cases h

theorem len_ok {args : Array Operand} {ts : Array TypeId} (hH : HeapOk β w H) (hρ : ∀ x, x ∈ args → Rel β w (ρ x) (σ x)) (h : mstep P ρ H nid (.call { callee := .builtin .len, args := args, argTypes := ts }) = some (q, v, ob)) :
    MOk β w nid ((execOp σ ⟨dst, .call { callee := .builtin .len, args := args, argTypes := ts }, ty, pos, after, g⟩).run P w) v ob := by
  simp only [mstep] at h
  split at h
  · rename_i x t hx ht
    have hr := hρ x (Array.mem_of_getElem? hx)
    have hm : (args.map σ)[0]? = some (σ x) := by rw [Array.getElem?_map, hx]; rfl
    split at h
    · rename_i e es n f hu hv
      cases h
      rw [hv] at hr
      obtain ⟨a, cap, hs, _⟩ := rel_isl_inv hr
      rw [hs] at hm
      exact ⟨.int .i64 n, by simp [execOp, resolve, invoke, builtin, Builtin.len_, ht, hm, run_underlying hu, goInt], .int⟩
    · rename_i e id es i n hu hv
      split at h
      · rename_i o ho
        cases h
        rw [hv] at hr
        have : ∃ a cap, σ x = .slice a n cap := by
          rcases osl_inv hH hr ho with ⟨b, nn, cap, sz, mu, el, hsx, _⟩ | ⟨rfl, a, hsx⟩
          · exact ⟨_, _, hsx⟩
          · exact ⟨_, _, hsx⟩
        obtain ⟨a, cap, hs⟩ := this
        rw [hs] at hm
        exact ⟨.int .i64 n, by simp [execOp, resolve, invoke, builtin, Builtin.len_, ht, hm, run_underlying hu, goInt], .int⟩
      · cases h
    · rename_i e hu hv
      cases h
      rw [hv] at hr
      cases hsx : σ x <;> rw [hsx] at hr <;> cases hr
      rw [hsx] at hm
      exact ⟨.int .i64 0, by simp [execOp, resolve, invoke, builtin, Builtin.len_, ht, hm, run_underlying hu, goInt], .int⟩
    · rename_i s hu hv
      cases h
      rw [hv] at hr
      rw [rel_str_inv hr] at hm
      exact ⟨.int .i64 s.size, by simp [execOp, resolve, invoke, builtin, Builtin.len_, ht, hm, run_underlying hu, goInt], .int⟩
    · rename_i n e hu
      cases h
      exact ⟨.int .i64 n, by simp [execOp, resolve, invoke, builtin, Builtin.len_, ht, hm, run_underlying hu, goInt], .int⟩
    · cases h
  · cases h

end
end Go.Am
