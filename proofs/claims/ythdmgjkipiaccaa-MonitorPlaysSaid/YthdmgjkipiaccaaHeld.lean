/-
  Package monitor: Held.
-/
import Derived.Test.YthdmgjkipiaccaaHeldS
import Derived.Test.YthdmgjkipiaccaaMonG
import Derived.Test.YthdmgjkipiaccaaMonS
import Derived.Test.YthdmgjkipiaccaaQu
namespace Go.Proofs.Ythdmgjkipiaccaa
open Go.RowKit

def PT.holds (T : PT) (t a : Int) : Bool := decide ((T.at a).owner = t) && decide (0 < t)
def PT.held (T : PT) (t : Int) : List Int := (sortI (T.ls.map (·.1))).filter (T.holds t)
def HeldPost (w : World) (xs : List Int) (e : Ending) (w' : World) : Prop := ∃ v, e = .returned v ∧ Qu w' v xs ∧ (∀ b ∈ bq v, w.heap.size ≤ b) ∧ Fr [] w w'

theorem filter_take {f : Int → Bool} {l : List Int} {k : Nat} (h : k < l.length) : (l.take (k + 1)).filter f = (l.take k).filter f ++ (if f (l.getD k 0) then [l.getD k 0] else []) := by
  have e : l[k] = l.getD k 0 := by rw [List.getD, List.getElem?_eq_getElem h]; rfl
  rw [List.take_succ_eq_append_getElem h, List.filter_append, e]
  congr 1
  rw [List.filter_cons]
  rfl
theorem find_lock {w : World} {l : Lies} {cs : List ((Int × Int) × Int)} {T : PT} (h : MonT w l cs) (hls : T.ls = l.gs.map (fun g => (g.at', g.L))) {a : Int} (ha : a ∈ T.ls.map (·.1)) :
    ∃ b, (Instr.lookup 58 (.map (some l.mb)) (.int .i64 a) false).run Try.prog w = .ok (.pointer (some ⟨b, 0, none⟩)) w ∧ w.cell? ⟨b, 0, none⟩ = some (.int .i64 (T.at a).owner) := by
  cases hg : lget T.ls a with
  | none =>
    rw [hls] at hg ha
    obtain ⟨_, k2⟩ := lget_gs_none hg
    obtain ⟨q, hq, e⟩ := List.mem_map.1 ha
    obtain ⟨g, hg', rfl⟩ := List.mem_map.1 hq
    exact absurd e (k2 g hg')
  | some L =>
    have eA : T.at a = L := by unfold PT.at; rw [hg]; rfl
    rw [hls] at hg
    obtain ⟨g1, g, g2, e2, hat, rfl, _, hl⟩ := lget_gs hg
    refine ⟨g.b, ?_, ?_⟩
    · have := h.look a
      rw [hl] at this
      exact this
    · rw [eA]
      exact (h.lks g (by rw [e2]; simp)).c.1

set_option maxHeartbeats 1000000 in
theorem held_any {w : World} {p : Value} {F : List Nat} {T : PT} (h : Mon w p F T) (hk : ∀ q ∈ T.ls, (Lit.int .i64 q.1).wf = true) (hl : T.ls.length ≤ 100000) (t : Int) :
    Calls Try.prog 16 #[p, .int .i64 t] w (HeldPost w (T.held t)) := by
  obtain ⟨⟨tb, mb, cb, gs⟩, rfl, rfl, hls, hm⟩ := h
  simp only [] at hls hm ⊢
  have hc0 := hm.c0
  simp only [] at hc0
  have ekeys : (gs.map (fun g => (g.at', ptrV g.b))).map (·.1) = T.ls.map (·.1) := by rw [hls, List.map_map, List.map_map]; rfl
  have hcs := sorted_calls w mb _ hm.lm (by
    intro q hq
    obtain ⟨g, hg, rfl⟩ := List.mem_map.1 hq
    exact hk (g.at', g.L) (by rw [hls]; exact List.mem_map.2 ⟨g, hg, rfl⟩)) (by
    have := hl; rw [hls, List.length_map] at this; rw [List.length_map]; show gs.length ≤ 1000000; omega)
  simp only [] at hcs
  rw [ekeys] at hcs
  have hlen : (sortI (T.ls.map (·.1))).length ≤ 100000 := by unfold sortI; rw [List.length_mergeSort, List.length_map]; exact hl
  have hmem : ∀ k, k < (sortI (T.ls.map (·.1))).length → (sortI (T.ls.map (·.1))).getD k 0 ∈ T.ls.map (·.1) := by
    intro k hk
    have e : (sortI (T.ls.map (·.1)))[k] = (sortI (T.ls.map (·.1))).getD k 0 := by rw [List.getD, List.getElem?_eq_getElem hk]; rfl
    rw [← e]
    exact (List.mergeSort_perm _ _).mem_iff.1 (List.getElem_mem hk)
  have HM := hid hm
  have HL := hid hls
  have HC := hid hcs
  have HLEN := hid hlen
  have HMEM := hid hmem
  have HDef : Hid (T.held t = (sortI (T.ls.map (·.1))).filter (T.holds t)) := hid rfl
  obtain ⟨ks, hks⟩ : ∃ ks, ks = sortI (T.ls.map (·.1)) := ⟨_, rfl⟩
  rw [← hks] at HLEN HMEM HDef
  have HKS := hid hks
  clear hks
  clear hm hls hcs hlen hmem ekeys hk hl
  unfold ptrV at *
  go_enter Try.func16, Try.ntmps16
  go_wp2_with fail
  refine (keys_calls (some mb) w).mono ?_
  rintro e w1 ⟨rfl, rfl⟩
  go_wp2_with fail
  refine HC.out.mono ?_
  rintro e w2 ⟨v, rfl, hv, hvb, f2⟩
  rw [← HKS.out] at hv
  obtain ⟨av, cv, rfl, _, _⟩ := hv.form
  have hc2 := f2.cell hc0 (by simp)
  have HV := hid hv
  have HVB := hid hvb
  have F2 := hid f2
  clear hv hvb f2 hc0
  go_wp2_with fail
  go_loopw [5, 16] (fun o i wr => ∃ (k : Nat), k ≤ ks.length ∧ i = .int .i64 k ∧ Hid (Qu wr o ((ks.take k).filter (T.holds t)) ∧ (∀ b ∈ bq o, w2.heap.size ≤ b) ∧ Fr [] w2 wr)) (fun _ i _ => ks.length - (intOf i).toNat)
  case atStart => exact ⟨0, Nat.zero_le _, rfl, Qu.nil _, by simp [bq], Fr.refl _ _⟩
  case round =>
    obtain ⟨k, hk, rfl, hq⟩ := hrel
    by_cases hlt : k < ks.length
    · have hlb := HLEN.out
      obtain ⟨bv, cap, hve, hcell, _⟩ := (HV.out.keep0 hq.out.2.2).cell k hlt
      injection hve with e1 e2 e3
      subst e1
      clear e2 e3
      have hc3 := hq.out.2.2.cell hc2 (by simp)
      obtain ⟨lb, hlk, hlc⟩ := find_lock (HM.out.keep0 (F2.out.tr hq.out.2.2)) HL.out (HMEM.out k hlt)
      simp only [] at hlk
      have hft := filter_take (f := T.holds t) hlt
      generalize ks.getD k 0 = a at hcell hlk hlc hft
      have HFT := hid hft
      clear hft
      obtain ⟨ow, how⟩ : ∃ ow, ow = (T.at a).owner := ⟨_, rfl⟩
      have hho : T.holds t a = (decide (ow = t) && decide (0 < t)) := by rw [how]; rfl
      rw [← how] at hlc
      have HHO := hid hho
      clear how hho hc2
      by_cases h1 : ow = t
      · subst h1
        by_cases h2 : 0 < ow
        · have hb : decide (0 < ow) = true := by simpa using h2
          obtain ⟨xs, hxs⟩ : ∃ xs, xs = (ks.take k).filter (T.holds ow) := ⟨_, rfl⟩
          obtain ⟨hq1, hq2, hq3⟩ := hq.out
          rw [← hxs] at hq1 HFT
          have HOL := hid (show xs.length ≤ 1000000 by rw [hxs]; have h1 := List.length_filter_le (T.holds ow) (ks.take k); rw [List.length_take] at h1; have := HLEN.out; omega)
          obtain ⟨ao, co, hoe, _, _⟩ := hq1.form
          subst hoe
          have HQ1 := hid hq1
          have HQ2 := hid hq2
          have HQ3 := hid hq3
          have HB := hid hb
          clear h2 hxs hq1 hq2 hq3 hq
          go_wp2_with (at_builtin; refine wpList_append_qu rfl _ _ rfl (.slice ao xs.length co) xs rfl (HQ1.out.keep0 ((Fr.refl _ _).alloc _)) ⟨wr.heap.size, 0, none⟩ a rfl (cell_one_new wr (.int .i64 a) 3 0 _ rfl) HOL.out ?_; intro v' w3 q3 f3 b3; have Q3 := hid q3; have F3 := hid f3; have B3 := hid b3; clear q3 f3 b3)
          go_roundw
          case rel =>
            refine ⟨k + 1, by omega, by go_num, hid ⟨?_, fun b hb => ?_, ?_⟩⟩
            · rw [HFT.out, HHO.out, HB.out]; simpa using Q3.out
            · rcases B3.out b hb with h | h
              · exact HQ2.out b h
              · have := HQ3.out.size; simp at h; omega
            · exact (HQ3.out.alloc _).trans F3.out (fun x hx => .inr (HQ2.out x hx))
          case measure => simp [intOf]; omega
        · have hb : decide (0 < ow) = false := by simpa using h2
          clear h2
          go_wp2_with fail
          go_roundw
          case rel => exact ⟨k + 1, by omega, by go_num, hid (by rw [HFT.out, HHO.out, hb]; simpa using hq.out)⟩
          case measure => simp [intOf]; omega
      · have hb : (ow == t) = false := by simpa using h1
        go_wp2_with fail
        go_roundw
        case rel => exact ⟨k + 1, by omega, by go_num, hid (by rw [HFT.out, HHO.out, decide_eq_false h1]; simpa using hq.out)⟩
        case measure => simp [intOf]; omega
    · obtain rfl : k = ks.length := by omega
      have HQ := hid hq.out
      rw [List.take_length, ← HDef.out] at HQ
      clear hq
      go_wp2_with fail
      go_ret
      exact ⟨_, rfl, HQ.out.1, fun b hb => Nat.le_trans F2.out.size (HQ.out.2.1 b hb), F2.out.tr HQ.out.2.2⟩

end Go.Proofs.Ythdmgjkipiaccaa
