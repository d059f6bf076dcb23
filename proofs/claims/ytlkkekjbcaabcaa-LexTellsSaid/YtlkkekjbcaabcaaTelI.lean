/-
  The document's print: the walk.
-/
import Derived.Test.YtlkkekjbcaabcaaTelH
namespace Go.Proofs.Ytlkkekjbcaabcaa
open Go.RowKit

set_option maxRecDepth 20000 in
set_option maxHeartbeats 2000000 in
theorem rprint_any (w : World) (v : Value) (ts : List Tok) (h : Toks w v ts) (hs : Shows ts) : Calls Try.prog 16 #[v] w (TxtPost2 w (printOf ts)) := by
  have hst : Lib.join (shown (ts.take ts.length)) [32] = printOf ts := by rw [List.take_length]; rfl
  obtain ⟨av, cv, hv, _, _⟩ := h.form
  have HT := hid h
  have HST := hid hst
  have hlen := hs.len
  have HS := hid hs
  subst hv
  clear h hst hs
  go_enter Try.func16, Try.ntmps16
  go_wp2_with fail
  go_loop [3, 4] (fun o i => ∃ k : Nat, k ≤ ts.length ∧ i = .int .i64 k ∧ o = .string (bs (Lib.join (shown (ts.take k)) [32]))) (fun _ i => ts.length - (intOf i).toNat)
  case atStart => exact ⟨0, Nat.zero_le _, rfl, rfl⟩
  case round =>
    obtain ⟨k, hk, rfl, rfl⟩ := hrel
    by_cases hlt : k < ts.length
    · obtain hn | ⟨b, cap, hve, hc⟩ := HT.out.tok
      · exact absurd hlt (by rw [hn]; simp)
      injection hve with e1 e2 e3
      subst e1
      clear e2 e3
      obtain ⟨⟨tk, ta, tx, ti, tr, tm⟩, ht⟩ : ∃ t, t = ts[k] := ⟨_, rfl⟩
      have hg : ts[k]? = some ⟨tk, ta, tx, ti, tr, tm⟩ := by rw [List.getElem?_eq_getElem hlt, ht]
      have cc : ∀ i u, (Tok.cells ⟨tk, ta, tx, ti, tr, tm⟩)[i]? = some u → w.cell? ⟨b, k * 5 + i, none⟩ = some u := fun i u h => by rw [Nat.mul_comm k 5]; exact hc k _ hg i u h
      have c0 : w.cell? ⟨b, k * 5, none⟩ = some (.int .i64 tk) := cc 0 _ rfl
      have c2 : w.cell? ⟨b, k * 5 + 2, none⟩ = some (.string (bs tx)) := cc 2 _ rfl
      have hsh := shown_take hlt
      rw [← ht] at hsh
      simp only [] at hsh
      have HFU := hid (shown_full HS.out.full k)
      have HSM := hid (HS.out.take (k + 1))
      have HSM0 := hid (HS.out.take k)
      obtain ⟨xs, hxs⟩ : ∃ xs, xs = shown (ts.take k) := ⟨_, rfl⟩
      rw [← hxs] at hsh HFU HSM0 ⊢
      clear hc hg ht cc hxs
      by_cases hk6 : tk = 6
      · rw [if_pos hk6] at hsh
        have HSH := hid hsh
        subst hk6
        clear hsh
        go_wp2_with fail
        go_round
        case rel => exact ⟨k + 1, by omega, by go_num, by rw [HSH.out, List.append_nil]⟩
        case measure => simp [intOf]; omega
      · have hk6a : (tk == 6) = false := by simpa using hk6
        rw [if_neg hk6] at hsh
        have hj := join_snoc xs tx
        rw [← hsh] at hj
        have HJ := hid hj
        rw [hsh, List.map_append, List.sum_append] at HSM
        have hlx : (bs tx).size ≤ 100000 := by have := HSM.out; rw [bs_size]; simp at this; omega
        have hlj : (bs (Lib.join xs [32])).size ≤ 100000 := by have := HSM0.out; have := join_sum xs; rw [bs_size]; omega
        have HE := hid (join_empty HFU.out)
        clear hsh hj hk6
        by_cases hx : xs = []
        · subst hx
          have e0 : Lib.join ([] : List (List UInt8)) [32] = [] := rfl
          rw [e0] at hlj ⊢
          have he1 : ((bs ([] : List UInt8)).toList == []) = true := by rw [Lib.toList_data, bs_list]; rfl
          have he2 : (bs ([] : List UInt8)).toList.isEmpty = true := by rw [Lib.toList_data, bs_list]; rfl
          clear e0
          go_wp2_with fail
          go_round
          case rel => exact ⟨k + 1, by omega, by go_num, by rw [HJ.out, if_pos rfl]; show Value.string (bs [] ++ bs tx) = _; rw [bs_app]; rfl⟩
          case measure => simp [intOf]; omega
        · have HJ2 := hid HJ.out
          rw [if_neg hx] at HJ2
          have hn : ¬ Lib.join xs [32] = [] := fun h => hx (HE.out.1 h)
          clear HE HJ hx
          generalize Lib.join xs [32] = l at hn HJ2 hlj ⊢
          have hlk : (bs l ++ bs [32]).size ≤ 100001 := by rw [bs_app, bs_size, List.length_append]; rw [bs_size] at hlj; simp; omega
          have he1 : ((bs l).toList == []) = false := by rw [Lib.toList_data, bs_list]; simpa using hn
          have he2 : (bs l).toList.isEmpty = false := by rw [Lib.toList_data, bs_list]; simpa using hn
          clear hn
          go_wp2_with fail
          go_round
          case rel => exact ⟨k + 1, by omega, by go_num, by rw [HJ2.out]; show Value.string (bs l ++ bs [32] ++ bs tx) = _; rw [bs_app, bs_app, List.append_assoc]; rfl⟩
          case measure => simp [intOf]; omega
    · obtain rfl : k = ts.length := by omega
      rw [HST.out]
      go_wp2_with fail
      go_ret
      exact ⟨rfl, Fr.refl _ _⟩

end Go.Proofs.Ytlkkekjbcaabcaa
