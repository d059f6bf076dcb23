/-
  The document's tokens: keywords.
-/
import Derived.Test.YtlkkekjbcaabcaaTelB
import Derived.Deep.WholeRow
import Derived.Deep.Cut
namespace Go.Proofs.Ytlkkekjbcaabcaa
open Go.RowKit
def rzCells : Array Value := Array.replicate 28 (.string ⟨#[]⟩)
theorem exec_store {P : Program} {ρ : Operand → Value} {o : Oper} {T : TypeId} {A X : Operand} {w w' : World} (ho : o.op = .store T A X) (h : (Instr.storeAt T (ρ A) (ρ X)).run P w = .ok () w') : (execOp ρ o).run P w = .ok .skip w' := by
  unfold execOp
  rw [ho]
  simp [h, Result.andThen]

set_option maxRecDepth 20000 in
set_option maxHeartbeats 2000000 in
theorem rword_any (s : ByteArray) (w : World) : Calls Try.prog 14 #[.string s] w (WordPost w (isWord s.data.toList)) := by
  obtain ⟨l, hl⟩ : ∃ l, l = s.data.toList := ⟨_, rfl⟩
  have hs : s = bs l := bs_of hl.symm
  rw [← hl]
  subst hs
  clear hl
  go_enter Try.func14, Try.ntmps14
  go_upto_region 1 with fail
  refine wp_region_lit (wpList_plain rfl fun K hK => ?_)
  refine Eq.mpr (congrArg (Oper.upon _ _ _ _ _) (show _ = Result.ok (.value (.agg rwCells)) w by kernel_rfl)) ?_
  rw [Oper.upon_value]
  refine hK _ _ ?_
  clear hK K
  refine wpList_plain rfl fun K hK => ?_
  refine Eq.mpr (congrArg (Oper.upon _ _ _ _ _) (show _ = Result.ok (.value (.pointer (some ⟨w.heap.size, 0, none⟩))) (w.alloc (.cells rzCells 58)) by kernel_rfl)) ?_
  rw [Oper.upon_value]
  refine hK _ _ ?_
  clear hK K
  refine wpList_plain rfl fun K hK => ?_
  have hst := run_storeAt_new (P := Try.prog) w 58 rzCells rwCells (by kernel_rfl) (by kernel_rfl) (by kernel_rfl)
  refine Eq.mpr (congrArg (Oper.upon _ _ _ _ _) (exec_store rfl hst)) ?_
  rw [Oper.upon_skip]
  refine hK _ _ (wpList_nil ?_)
  clear hK K hst
  have F1 := hid (show Fr [] w (w.alloc (.cells rwCells 58)) from (Fr.refl _ _).alloc _)
  have HC := hid (rwCell w)
  obtain ⟨w1, hw1⟩ : ∃ w1, w1 = w.alloc (.cells rwCells 58) := ⟨_, rfl⟩
  rw [← hw1] at F1 HC ⊢
  clear hw1
  simp only [Act.put, List.getElem_toArray, List.getElem_cons_zero, List.getElem_cons_succ, List.setIfInBounds_toArray, List.set_cons_zero, List.set_cons_succ]
  obtain ⟨ag, hag⟩ : ∃ ag, ag = Value.agg rwCells := ⟨_, rfl⟩
  rw [← hag]
  clear hag
  obtain ⟨b, hb⟩ : ∃ b, b = w.heap.size := ⟨_, rfl⟩
  rw [← hb] at HC ⊢
  clear hb
  go_wp2_with fail
  go_loop [4] (fun i => ∃ k : Nat, k ≤ 27 ∧ i = .int .i64 k ∧ Hid (∀ j, j < k → words.getD j [] ≠ l)) (fun i => 27 - (intOf i).toNat)
  case atStart => exact ⟨0, by omega, rfl, fun j hj => by omega⟩
  case round =>
    obtain ⟨k, hk, rfl, hno⟩ := hrel
    by_cases hlt : k < 27
    · have hc := HC.out k hlt
      obtain ⟨x, hx⟩ : ∃ x, x = words.getD k [] := ⟨_, rfl⟩
      rw [← hx] at hc
      by_cases he : x = l
      · subst he
        have HE := hid (contains_of hlt hx.symm)
        clear hx
        go_wp2_with fail
        go_ret
        exact ⟨by rw [HE.out]; rfl, F1.out⟩
      · have hne : ((bs x).toList == (bs l).toList) = false := by
          rw [Lib.toList_data, Lib.toList_data, bs_list, bs_list]
          simpa using he
        have HX := hid hx
        have HE := hid he
        clear hx he
        go_wp2_with fail
        go_round
        case rel =>
          refine ⟨k + 1, by omega, by go_num, hid (fun j hj => ?_)⟩
          by_cases hjk : j = k
          · subst hjk; rw [← HX.out]; exact HE.out
          · exact hno.out j (by omega)
        case measure => simp [intOf]; omega
    · obtain rfl : k = 27 := by omega
      have HE := hid (not_contains hno.out)
      clear hno
      go_wp2_with fail
      go_ret
      exact ⟨by rw [HE.out]; rfl, F1.out⟩
end Go.Proofs.Ytlkkekjbcaabcaa
