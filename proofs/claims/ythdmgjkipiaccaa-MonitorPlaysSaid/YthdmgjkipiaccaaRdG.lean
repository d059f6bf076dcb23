/-
  MonitorPlays: the document's names.
-/
import Derived.Test.YthdmgjkipiaccaaRdN
namespace Go.Proofs.Ythdmgjkipiaccaa
open Go.RowKit

structure NamS (w wr : World) (vl : Value) (d : List (Int × Int)) : Prop where
  l : Sli wr vl (d.map (·.1))
  fr : Fr [] w wr
  new : ∀ z ∈ fpv vl, w.heap.size ≤ z
theorem NamS.push {w wr w' : World} {vl vl' : Value} {d : List (Int × Int)} {p : Int × Int} (h : NamS w wr vl d) (f : Fr (fpv vl) wr w') (hl : ∀ z ∈ fpv vl', z ∈ fpv vl ∨ wr.heap.size ≤ z) (hs : Sli w' vl' (d.map (·.1) ++ [p.1])) : NamS w w' vl' (d ++ [p]) := by
  refine ⟨by rw [List.map_append]; exact hs, h.fr.trans f (fun z hz => .inr (h.new z hz)), fun z hz => ?_⟩
  rcases hl z hz with k | k
  · exact h.new z k
  · have := h.fr.size; omega
theorem NamS.keep0 {w wr w' : World} {vl : Value} {d : List (Int × Int)} (h : NamS w wr vl d) (f : Fr [] wr w') : NamS w w' vl d := ⟨h.l.keep0 f, h.fr.tr0 f, h.new⟩

set_option maxHeartbeats 1000000 in
theorem dnames_any {w : World} {v : Value} {l : List (Int × Int)} (h : WQ w v l) (hk : l.length ≤ 2000) : Calls Try.prog 38 #[v] w fun e w' => ∃ vl, e = .returned vl ∧ NamS w w' vl l := by
  obtain ⟨ak, ck, hvk, _, _⟩ := h.form
  obtain ⟨n, hn⟩ : ∃ n, n = l.length := ⟨_, rfl⟩
  rw [← hn] at hvk hk
  have HN := hid hn
  have HD := hid h
  have HVK := hid hvk
  have HS := hid (show NamS w w (.slice none 0 0) (l.take 0) from ⟨Sli.nil _, Fr.refl _ _, by simp [fpv, Value.ownBlock]⟩)
  subst hvk
  clear h hn
  go_enter Try.func38, Try.ntmps38
  go_wp2_with fail
  go_loopw [3, 4] (fun vl o wr => ∃ (j : Nat) (al : Option Addr) (cl : Nat), o = .int .i64 j ∧ j ≤ n ∧ vl = .slice al j cl ∧ Hid (NamS w wr vl (l.take j))) (fun _ v _ => n - (intOf v).toNat)
  case atStart => exact ⟨0, none, 0, rfl, by omega, rfl, by first | exact HS | exact hid (HS.out.keep0 (Fr.refl _ _).drew)⟩
  case round =>
    obtain ⟨j, al, cl, rfl, hj, rfl, hs⟩ := hrel
    by_cases hlt : j < n
    · have hlt2 : (j : Int) < n := by omega
      have hjb : (j : Int) ≤ 2000 := by omega
      have hjl : j < l.length := by rw [← HN.out]; exact hlt
      obtain ⟨b, off, cap, e, q0, qr⟩ := (HD.out.keep0 hs.out.fr).cell j hjl
      rw [← HN.out] at e
      injection e with e1 e2 e3
      subst e1
      clear qr e2 e3
      obtain ⟨p, hp⟩ : ∃ p, p = l.getD j (0, 0) := ⟨_, rfl⟩
      rw [← hp] at q0
      have HTK : Hid (l.take (j + 1) = l.take j ++ [p]) := hid (by
        rw [hp, List.getD_eq_getElem?_getD, List.getElem?_eq_getElem hjl]
        exact (List.take_append_getElem hjl).symm)
      have hlen : (l.take j).length = j := by rw [List.length_take]; omega
      have HLEN := hid hlen
      clear hlt hp hlen
      go_upto_region 5 with (fail)
      go_upto_region 4 with (at_builtin; refine wpList_append_sli rfl _ _ rfl (.slice al j cl) ((l.take j).map (·.1)) rfl (hs.out.l.keep0 ((Fr.refl _ _).alloc _)) ⟨wr.heap.size, 0, none⟩ p.1 rfl (cell_one_new wr (.int .i64 p.1) 3 0 _ rfl) (by rw [List.length_map, HLEN.out]; omega) ?_; intro v' w3 q3 f3 b3)
      have FA : Fr (fpv (.slice al j cl)) wr w3 := (((Fr.refl _ wr).alloc _).tr f3)
      have HPU := hid (hs.out.push (p := p) FA (fun z hz => (b3 z hz).imp id (fun hz => Nat.le_trans ((Fr.refl [] wr).alloc _).size hz)) q3)
      obtain ⟨a3, c3', hv3, _, _⟩ := q3.form
      rw [List.length_append, List.length_map, HLEN.out] at hv3
      have HV3 := hid hv3
      clear FA f3 b3 q3 hv3
      go_wp2_with fail
      go_roundw
      case rel => exact ⟨j + 1, a3, c3', by go_num, by omega, HV3.out, by rw [HTK.out]; first | exact HPU | exact hid (HPU.out.keep0 (Fr.refl _ _).drew)⟩
      case measure => simp [intOf]; omega
    · obtain rfl : j = n := by omega
      have hlt2 : ¬ (j : Int) < j := by omega
      have htk : l.take j = l := by rw [HN.out, List.take_length]
      have HTK := hid htk
      clear hlt htk
      go_wp2_with fail
      go_ret
      rw [HTK.out] at hs
      exact ⟨_, rfl, by first | exact hs.out | exact hs.out.keep0 (Fr.refl _ _).drew⟩

end Go.Proofs.Ythdmgjkipiaccaa
