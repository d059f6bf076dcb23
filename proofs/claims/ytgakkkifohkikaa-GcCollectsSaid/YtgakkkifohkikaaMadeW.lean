/-
  loomlaw12.made.
-/
import Derived.Test.YtgakkkifohkikaaBoth
namespace Go.Proofs.Ytgakkkifohkikaa
open Go.RowKit

theorem ats_snoc (L : List Ob) (o : Ob) : ats (L ++ [o]) = ats L ++ [(o.at' : Int)] := by simp [ats]
/-- what made leaves: an arena and the reference's with the same objects, and the addresses in the order in which they came -/
def MadePost (w0 : World) (ns ng : Nat) (e : Ending) (w' : World) : Prop :=
  ∃ hb rb v l L, e = .returned (.tuple #[.pointer (some ⟨hb, 0, none⟩), .pointer (some ⟨rb, 0, none⟩), v]) ∧ Both w0 w' (.pointer (some ⟨hb, 0, none⟩)) (.pointer (some ⟨rb, 0, none⟩)) 600 L L v l ∧ l.length = ns ∧ (ng = 0 → l = ats L)

set_option maxHeartbeats 4000000 in
set_option maxRecDepth 20000 in
theorem made_any {w0 w : World} (f0 : Fr [] w0 w) {aa ag : Option Addr} {ls cs lg cg : Nat} {zs zg : List Int} (hs : IsRow .u8 w0 aa ls cs zs) (hg : IsRow .u8 w0 ag lg cg zg) (hls : ls ≤ 30) (hlg : lg ≤ 30) :
    Calls Try.prog 29 #[.slice aa ls cs, .slice ag lg cg] w (MadePost w0 ls lg) := by
  have HS := hid hs
  have HG := hid hg
  have F0 := hid f0
  clear hs hg f0
  go_enter Try.func29, Try.ntmps29
  go_wp2_with fail
  refine (Own.new w0 w F0.out 600).mono ?_
  rintro e w1 ⟨hb, rfl, h1⟩
  have H1 := hid h1
  clear h1
  go_wp2_with fail
  refine (rnew_any w1 600).mono ?_
  rintro e w2 ⟨rb, rfl, h2, f2, n2⟩
  have H2 : Hid (Both w0 w2 (.pointer (some ⟨hb, 0, none⟩)) (.pointer (some ⟨rb, 0, none⟩)) 600 [] [] (.slice none 0 0) []) := hid (by
    refine ⟨[rb], ?_, h2, RI.nil _, fun b hb => ?_, by simp [fpv, Value.ownBlock]⟩
    · refine H1.out.ownF.other f2 (by simp) (fun a ha => ?_)
      simp only [fpv, Value.ownBlock, Option.toList_none, List.append_nil, List.mem_singleton] at ha
      subst ha
      exact ⟨.inr n2, h2.lt _ (by simp)⟩
    · simp only [fpv, Value.ownBlock, Option.toList_none, List.append_nil, List.mem_singleton] at hb
      subst hb
      exact Nat.le_trans H1.out.fr.size n2)
  clear h2 f2 n2
  go_wp2_with fail
  go_loopw [9, 10] (fun v i wr => ∃ (k e : Nat) (l : List Int) (L : List Ob), i = .int .i64 k ∧ k ≤ ls ∧ l.length = k ∧ Hid (Fills 1 L e ∧ e ≤ 1 + 13 * k ∧ l = ats L ∧ Both w0 wr (.pointer (some ⟨hb, 0, none⟩)) (.pointer (some ⟨rb, 0, none⟩)) 600 L L v l)) (fun _ i _ => ls - (intOf i).toNat)
  case atStart => exact ⟨0, 1, [], [], rfl, by omega, rfl, hid ⟨rfl, by omega, rfl, H2.out⟩⟩
  case round =>
    obtain ⟨k, e, l, L, rfl, hk, hlk, hr⟩ := hrel
    have HR := hid hr.out
    clear hr
    obtain ⟨av, cv, hve, _, _⟩ := HR.out.2.2.2.sl.form
    rw [hlk] at hve
    subst hve
    by_cases hlt : k < ls
    · have hlt2 : (k : Int) < ls := by omega
      have hkb : (k : Int) ≤ 30 := by omega
      obtain ⟨b, off, rfl, hcell, hwf⟩ := (HS.out.keep HR.out.2.2.2.fr).cell k hlt
      obtain ⟨z0, z255⟩ := u8_bounds hwf
      have HZC : Hid (∀ w', Fr [] w0 w' → w'.cell? ⟨b, off + k, none⟩ = some (.int .u8 (zs.getD k 0))) := hid (fun w' f => by
        obtain ⟨b', off', e, hc, _⟩ := (HS.out.keep f).cell k hlt
        cases e
        exact hc)
      generalize zs.getD k 0 = z at hcell HZC z0 z255
      obtain ⟨s, hs⟩ : ∃ s : Nat, z % 12 = (s : Int) := ⟨(z % 12).toNat, by omega⟩
      have hs12 : s < 12 := by omega
      have hsb : (s : Int) ≤ 12 := by omega
      have hal := Fills.alloc (n := 600) HR.out.1 k s (by have := HR.out.2.1; omega)
      obtain ⟨hal1, hal2⟩ := hal
      have A1 := hid (HR.out.2.2.2.halloc k s (by omega) hal1)
      have HAL := hid (And.intro hal1 hal2)
      have HLK := hid hlk
      have eb : (e : Int) ≤ 600 := by have := HR.out.2.1; omega
      clear hwf hal1 hal2
      go_wp2_with fail
      refine A1.out.mono ?_
      rintro e' w3 ⟨rfl, h3⟩
      have hc3 := HZC.out w3 h3.fr
      have A2 := hid (h3.ralloc k s HAL.out.1)
      clear h3
      go_wp2_with fail
      refine A2.out.mono ?_
      rintro e' w4 ⟨rfl, h4⟩
      have H4 := hid h4
      have S4 := hid (show RI (w4.alloc (.cells #[.int .i64 e] 3)) (.slice av k cv) l from RV.keep0 h4.sl ((Fr.refl _ _).alloc _))
      clear h4
      go_wp2_with (at_builtin; refine wp_append_ri rfl (.tmp 60) (.tmp 62) rfl (.slice av k cv) (.slice (some ⟨w4.heap.size, 0, none⟩) 1 1) l [(e : Int)] rfl S4.out rfl (RI.made (w := w4) [(e : Int)] (by simp)) (by rw [HLK.out]; simp; omega) ?_; intro a5 c5 w5 r5 f5 n5; rw [HLK.out] at r5 n5 ⊢; have R5 := hid r5; have F5 := hid f5; have N5 := hid n5; clear r5 f5 n5)
      have HB5 : Hid (Both w0 w5 (.pointer (some ⟨hb, 0, none⟩)) (.pointer (some ⟨rb, 0, none⟩)) 600 (L ++ [newOb e k s]) (L ++ [newOb e k s]) (.slice a5 (k + [(e : Int)].length) c5) (l ++ [(e : Int)])) := hid (Both.grown H4.out (((Fr.refl _ _).alloc _).tr F5.out) R5.out (fun b hb => by
        rcases N5.out b hb with h | h
        · exact .inl h
        · rw [World.size_alloc] at h; exact .inr (by omega)))
      go_roundw
      case rel => exact ⟨k + 1, e + (s + 2), l ++ [(e : Int)], L ++ [newOb e k s], by go_num, by omega, by rw [List.length_append, HLK.out]; rfl, hid ⟨HAL.out.2, by have := HR.out.2.1; omega, by rw [ats_snoc, ← HR.out.2.2.1]; rfl, HB5.out⟩⟩
      case measure => simp [intOf]; omega
    · obtain rfl : k = ls := by omega
      have hlt2 : ¬ (k : Int) < k := by omega
      have hB := HR.out.2.2.2
      have HLA := hid HR.out.2.2.1
      have HB := hid hB
      have HLK := hid hlk
      clear hlt hB
      go_wp2_with fail
      go_loopw [15] (fun i wr => ∃ (j : Nat) (M : List Ob), i = .int .i64 j ∧ j ≤ lg ∧ Hid ((j = 0 → M = L) ∧ Both w0 wr (.pointer (some ⟨hb, 0, none⟩)) (.pointer (some ⟨rb, 0, none⟩)) 600 M M (.slice av k cv) l)) (fun i _ => lg - (intOf i).toNat)
      case atStart => exact ⟨0, L, rfl, by omega, hid ⟨fun _ => rfl, HB.out⟩⟩
      case round =>
        obtain ⟨j, M, rfl, hj, hr⟩ := hrel
        have HR2 := hid hr.out
        clear hr
        have HFIN : Hid (j = lg ∨ k = 0 → MadePost w0 k lg (.returned (.tuple #[.pointer (some ⟨hb, 0, none⟩), .pointer (some ⟨rb, 0, none⟩), .slice av k cv])) wr) := hid (fun h => by
          refine ⟨hb, rb, _, l, M, rfl, HR2.out.2, HLK.out, fun h0 => ?_⟩
          rw [HR2.out.1 (by omega)]
          exact HLA.out)
        by_cases hlt : j < lg
        · have hlt3 : (j : Int) < lg := by omega
          have hjb : (j : Int) ≤ 30 := by omega
          by_cases hk0 : 0 < k
          · have hk02 : (0 : Int) < k := by omega
            have hkn : ¬ k = 0 := by omega
            have hkb : (k : Int) ≤ 30 := by omega
            obtain ⟨bg, og, rfl, hcell, hwf⟩ := (HG.out.keep HR2.out.2.fr).cell j hlt
            obtain ⟨z0, z255⟩ := u8_bounds hwf
            generalize zg.getD j 0 = z at hcell z0 z255
            obtain ⟨x, hx⟩ : ∃ x : Nat, z % (k : Int) = (x : Int) := ⟨(z % (k : Int)).toNat, by rw [Int.toNat_of_nonneg (Int.emod_nonneg _ (by omega))]⟩
            have hxk : x < k := by have := Int.emod_lt_of_pos z (show (0 : Int) < k by omega); omega
            have hx' : Int.tmod z (k : Int) = (x : Int) := by rw [Int.tmod_eq_emod_of_nonneg z0]; exact hx
            have hxb : (x : Int) < k := by omega
            have HC2 : Hid (∀ w', RI w' (.slice av k cv) l → ∃ bl, av = some ⟨bl, 0, none⟩ ∧ w'.cell? ⟨bl, x, none⟩ = some (.int .i64 (l.getD x 0))) := hid (fun w' h => by
              obtain ⟨b, c, e, h1⟩ := RI.cell h x (by rw [HLK.out]; exact hxk)
              injection e with e1 _ _
              exact ⟨b, e1, h1⟩)
            obtain ⟨bl, hav, hcl⟩ := HC2.out wr HR2.out.2.sl
            subst hav
            have HC3 : Hid (∀ w', RI w' (.slice (some ⟨bl, 0, none⟩) k cv) l → w'.cell? ⟨bl, x, none⟩ = some (.int .i64 (l.getD x 0))) := hid (fun w' h => by
              obtain ⟨b', e, h1⟩ := HC2.out w' h
              injection e with e
              injection e with e
              rw [← e] at h1
              exact h1)
            generalize l.getD x 0 = y at hcl HC3
            clear hwf hx hxk
            go_wp2_with fail
            go_region_with (first | (go_at_call 15; refine ((HR2.out.2.keep (by first | exact Fr.refl _ _ | exact (Fr.refl _ _).drew)).hrelease y).mono ?_; rintro e w6 ⟨rfl, h6⟩; have H6 := hid h6; have c6 := HC3.out w6 h6.sl; clear h6) | (go_at_call 25; refine ((H6.out.keep (by first | exact Fr.refl _ _ | exact (Fr.refl _ _).drew)).rrelease y).mono ?_; rintro e w7 ⟨rfl, h7⟩; have H7 := hid h7; have c7 := HC3.out w7 h7.sl; clear h7))
            all_goals
              go_wp2_with fail
              go_roundw
              case rel => exact ⟨j + 1, relL M y, by go_num, by omega, hid ⟨fun h => by omega, by first | exact H7.out | exact H7.out.keep ((Fr.refl _ _).drew)⟩⟩
              case measure => simp [intOf]; omega
          · have hk03 : ¬ ((0 : Int) < k) := by omega
            obtain rfl : k = 0 := by omega
            have HF := hid (HFIN.out (.inr rfl))
            clear HFIN hk0
            go_wp2_with fail
            go_ret3
            exact HF.out
        · obtain rfl : j = lg := by omega
          have hlt3 : decide ((j : Int) < j) = false := by simp
          have HF := hid (HFIN.out (.inl rfl))
          clear HFIN hlt
          go_wp2_with fail
          go_ret3
          exact HF.out

end Go.Proofs.Ytgakkkifohkikaa
