/-
  isObject; the function that refers to nothing.
-/
import Derived.Test.YtgakkkifohkikaaMadeW
namespace Go.Proofs.Ytgakkkifohkikaa
open Go.RowKit

set_option maxHeartbeats 400000 in
theorem isObject_any {w : World} {v : Value} {l : List Int} (hv : RI w v l) (x : Int) : Calls Try.prog 35 #[v, .int .i64 x] w fun e w' => e = .returned (.bool (l.contains x)) ∧ Fr [] w w' := by
  obtain ⟨a1, c1, rfl, l1, m1⟩ := hv.form
  obtain ⟨n, hn⟩ : ∃ n, n = l.length := ⟨_, rfl⟩
  have HV := hid hv
  rw [← hn] at HV l1 ⊢
  have HN := hid hn
  obtain ⟨c, hc⟩ : ∃ c, c = l.contains x := ⟨_, rfl⟩
  rw [← hc]
  have HCN := hid hc
  clear hv hn hc
  unfold maxLen at m1
  go_enter Try.func35, Try.ntmps35
  go_wp2_with fail
  go_loopw [5] (fun i wr => ∃ k : Nat, k ≤ n ∧ i = .int .i64 k ∧ Hid ((∀ y ∈ l.take k, y ≠ x) ∧ Fr [] w wr)) (fun i _ => n - (intOf i).toNat)
  case atStart => exact ⟨0, Nat.zero_le _, rfl, hid ⟨by simp, Fr.refl _ _⟩⟩
  case round =>
    obtain ⟨k, hk, rfl, hr⟩ := hrel
    have HR := hid hr.out
    clear hr
    by_cases hlt : k < n
    · have hVs : RI wr (.slice a1 n c1) l := RV.keep0 HV.out HR.out.2
      have hkl : k < l.length := by rw [← HN.out]; exact hlt
      obtain ⟨b1, cc1, e1, hcell1⟩ := hVs.cell k hkl
      injection e1 with e1 e3' e3
      subst e1
      clear hVs e3 e3'
      have hk1 : (k : Int) < n := by omega
      have hget : l[k]? = some (l.getD k 0) := by rw [List.getD, List.getElem?_eq_getElem hkl]; rfl
      have HG := hid hget
      generalize l.getD k 0 = y at hcell1 HG
      clear hget
      by_cases hx : y = x
      · have hb : (y == x) = true := by simpa using hx
        have HC := hid (show l.contains x = true from List.contains_iff_mem.2 (by rw [← hx]; exact List.mem_of_getElem? HG.out))
        clear hx
        go_wp2_with fail
        go_ret
        exact ⟨by rw [HCN.out, HC.out]; rfl, HR.out.2⟩
      · have hb : (y == x) = false := by simpa using hx
        have HX := hid hx
        clear hx
        go_wp2_with fail
        go_roundw
        case rel => exact ⟨k + 1, by omega, by go_num, hid ⟨fun q hq => by
          rw [List.take_add_one, HG.out] at hq
          rcases List.mem_append.1 hq with h1 | h1
          · exact HR.out.1 q h1
          · simp only [Option.toList, List.mem_singleton] at h1
            rw [h1]; exact HX.out, HR.out.2⟩⟩
        case measure => simp [intOf]; omega
    · obtain rfl : k = n := by omega
      have HC := hid (show l.contains x = false from by
        rw [Bool.eq_false_iff, ne_eq, List.contains_iff_mem]
        intro hm
        exact HR.out.1 x (by rw [HN.out, List.take_length]; exact hm) rfl)
      have hlt2 : ¬ (k : Int) < k := by omega
      clear hlt
      go_wp2_with fail
      go_ret
      exact ⟨by rw [HCN.out, HC.out]; rfl, HR.out.2⟩

def noneR (_ : Int) : List Int := []
theorem none_any (w : World) (a : Int) : Calls Try.prog 34 #[.int .i64 a] w fun e w' => e = .returned (.slice none 0 0) ∧ w = w' := by
  go_enter Try.func34, Try.ntmps34
  go_wp2_with fail
  go_ret
  exact ⟨rfl, rfl⟩
theorem none_clo (L : List Ob) : Clo 34 #[] L noneR NoC where
  en := enters_of Try.func34 (by kernel_rfl) rfl
  keep := fun h _ _ => h
  lt := fun h => by unfold NoC at h; rw [h]; simp
  call := fun {s w O} a _ _ hc => by
    unfold NoC at hc
    subst hc
    refine (none_any w a).mono ?_
    rintro e w' ⟨rfl, rfl⟩
    exact ⟨_, [], rfl, RI.nil _, rfl, Fr.refl _ _, by simp, by simp [fpv, Value.ownBlock]⟩
theorem none_reach (L : List Ob) (roots : List Int) (a : Int) : Reach L roots noneR a ↔ a ∈ roots ∧ has L a = true := by
  constructor
  · intro h
    cases h with
    | root h1 h2 => exact ⟨h1, h2⟩
    | step _ h2 _ => cases h2
  · rintro ⟨h1, h2⟩
    exact .root h1 h2

end Go.Proofs.Ytgakkkifohkikaa
