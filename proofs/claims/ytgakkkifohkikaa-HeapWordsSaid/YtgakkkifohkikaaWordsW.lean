/-
  HeapWords: the plain law; the walk.
-/
import Derived.Test.YtgakkkifohkikaaAgainW
import Derived.Test.YtgakkkifohkikaaWholeP
import Derived.Test.YtgakkkifohkikaaQu2
import Derived.Deep.Cut
import Derived.Deep.CutRange
namespace Go.Proofs.Ytgakkkifohkikaa
open Go.RowKit

theorem getV_mem {n a : Nat} {L : List Ob} (hr : Rise n a L) {o : Ob} (ho : o ∈ L) {i : Nat} (hi : i < o.ws.length) : getV L o.at' i = .tuple #[.int .u64 (o.ws.getD i 0), .int .i64 0] := by
  unfold getV wordOf
  rw [arFind_at hr ho]
  simp only []
  rw [if_pos (by omega)]
  rfl
theorem getV_end {n a : Nat} {L : List Ob} (hr : Rise n a L) {o : Ob} (ho : o ∈ L) : getV L o.at' (o.ws.length : Nat) = .tuple #[.int .u64 0, .int .i64 111] := by
  unfold getV wordOf
  rw [arFind_at hr ho]
  simp only []
  rw [if_neg (by omega)]
theorem put_mem {n a : Nat} {L : List Ob} (hr : Rise n a L) {o : Ob} (ho : o ∈ L) {i : Nat} (hi : i < o.ws.length) (v : Int) : putE L o.at' i = 0 ∧ putL L o.at' i v = putObs L o.at' i v := by
  have e : wordOf L o.at' i = some (o.at' + 2 + i, i, o.ws.getD i 0) := by
    unfold wordOf
    rw [arFind_at hr ho]
    simp only []
    rw [if_pos (by omega)]
    rfl
  unfold putE putL
  rw [e]
  exact ⟨rfl, rfl⟩
theorem clsV_mem {n a : Nat} {L : List Ob} (hr : Rise n a L) {o : Ob} (ho : o ∈ L) : clsV L o.at' = .tuple #[.int .i64 o.cls, .int .i64 0] := by
  unfold clsV
  rw [arFind_at hr ho]
theorem putObs_self {L : List Ob} {o : Ob} (ho : o ∈ L) (k : Nat) (v : Int) : o.put k v ∈ putObs L o.at' k v :=
  List.mem_map.2 ⟨o, ho, by rw [if_pos rfl]⟩
theorem putObs_other {L : List Ob} {o : Ob} (ho : o ∈ L) {x : Int} (hx : (o.at' : Int) ≠ x) (k : Nat) (v : Int) : o ∈ putObs L x k v :=
  List.mem_map.2 ⟨o, ho, by rw [if_neg hx]⟩
theorem Match.put {l : List Int} {L : List Ob} (h : Match l L) (x : Int) (k : Nat) (v : Int) : Match l (putObs L x k v) := by
  refine ⟨h.1, fun y => (h.2 y).trans ?_⟩
  constructor
  · rintro ⟨o, ho, he⟩
    by_cases hx : (o.at' : Int) = x
    · exact ⟨o.put k v, List.mem_map.2 ⟨o, ho, by rw [if_pos hx]⟩, he⟩
    · exact ⟨o, putObs_other ho hx k v, he⟩
  · rintro ⟨o, ho, he⟩
    obtain ⟨q, hq, rfl⟩ := List.mem_map.1 ho
    refine ⟨q, hq, ?_⟩
    split at he
    · exact he
    · exact he
/-- words of which the first ones are written -/
def wrt (m : Nat) (z : List Int) (k : Nat) : List Int := z.take k ++ List.replicate (m - k) 0
theorem wrt_length {m k : Nat} {z : List Int} (hk : k ≤ m) (hz : m ≤ z.length) : (wrt m z k).length = m := by
  unfold wrt
  rw [List.length_append, List.length_take, List.length_replicate]
  omega
theorem wrt_set {m k : Nat} {z : List Int} (hk : k < m) (hz : m ≤ z.length) : (wrt m z k).set k (z.getD k 0) = wrt m z (k + 1) := by
  unfold wrt
  have hl : (z.take k).length = k := by rw [List.length_take]; omega
  rw [List.set_append_right k (z.getD k 0) (by omega), hl, Nat.sub_self, show m - k = (m - (k + 1)) + 1 by omega, List.replicate_succ, List.set_cons_zero]
  rw [List.getD, List.getElem?_eq_getElem (by omega), List.take_succ_eq_append_getElem (by omega), List.append_assoc]
  rfl
def bigW : Int := 9223372036854775808
theorem wrt_get {m k : Nat} {z : List Int} (hk : k < m) (hz : m ≤ z.length) : (wrt m z k).getD k 0 = 0 := by
  unfold wrt
  have hl : (z.take k).length = k := by rw [List.length_take]; omega
  rw [List.getD, List.getElem?_append_right (by omega), hl, Nat.sub_self, List.getElem?_replicate, if_pos (by omega)]
  rfl
theorem words_alloc : ∀ m, m < 31 → arAlloc 400 [] 3 m = some (1, [newOb 1 3 m]) := by decide +kernel
theorem wrt_all {m j : Nat} {z : List Int} (hj : j < m) (hz : m ≤ z.length) : (wrt m z m).getD j 0 = z.getD j 0 := by
  unfold wrt
  rw [Nat.sub_self, List.replicate_zero, List.append_nil, List.getD, List.getD, List.getElem?_take, if_pos hj]
theorem getQ {w0 w : World} {p : Value} {n : Nat} {L : List Ob} (h : Own w0 w p n L) {x i : Int} {v : Value} (e : getV L x i = v) : Calls Try.prog 21 #[p, .int .i64 x, .int .i64 i] w (QPost w v) := e ▸ h.get x i
theorem clsQ {w0 w : World} {p : Value} {n : Nat} {L : List Ob} (h : Own w0 w p n L) {x : Int} {v : Value} (e : clsV L x = v) : Calls Try.prog 22 #[p, .int .i64 x] w (QPost w v) := e ▸ h.class x
/-- what is there: the arena, the others in their order, the written object -/
structure WQ (W wr : World) (p : Value) (v : Value) (l : List Int) (L : List Ob) (vs : List Int) : Prop where
  own : OwnQ W wr p 400 L v l
  m : Match ((1 : Int) :: l) L
  mem : (⟨1, 3, vs⟩ : Ob) ∈ L
theorem WQ.keep {W wr wr' : World} {p v : Value} {l : List Int} {L : List Ob} {vs : List Int} (h : WQ W wr p v l L vs) (f : Fr [] wr wr') : WQ W wr' p v l L vs := ⟨h.own.keep f, h.m, h.mem⟩
theorem Match.len_le {n : Nat} {l : List Int} {L : List Ob} (h : Match ((1 : Int) :: l) L) (hr : Rise n 1 L) : 1 + 2 * (l.length + 1) ≤ n + 1 := by
  have h1 := h.length hr
  have h2 := Rise.length hr
  rw [← h1] at h2
  simpa using h2

/-- .. while the words of a new object are written -/
def WI (W : World) (hb : Nat) (v : Value) (l : List Int) (vs : List Int) (x s k : Nat) (wx : World) : Prop :=
  ∃ L, OwnQ W wx (.pointer (some ⟨hb, 0, none⟩)) 400 L v l ∧ Match ((1 : Int) :: (l ++ [(x : Int)])) L ∧ (⟨1, 3, vs⟩ : Ob) ∈ L ∧ (⟨x, 4, wrt s (List.replicate s bigW) k⟩ : Ob) ∈ L
def WQx (W : World) (hb : Nat) (v : Value) (vs : List Int) (k : Nat) (wx : World) : Prop := ∃ l L, WQ W wx (.pointer (some ⟨hb, 0, none⟩)) v l L vs ∧ l.length ≤ k
set_option maxRecDepth 100000 in
set_option maxHeartbeats 40000000 in
theorem words_walk (a0 : Option Addr) (len0 cap0 : Nat) (z0 : List Int) (a1 : Option Addr) (len1 cap1 : Nat) (z1 : List Int) (W : World) (w0 : IsRow .u64 W a0 len0 cap0 z0) (w1 : IsRow .u8 W a1 len1 cap1 z1) :
    Calls Try.prog 6 #[.slice a0 len0 cap0, .slice a1 len1 cap1] W fun e w' => e = .returned (.bool true) ∧ Fr [] W w' := by
  have HR := hid w1
  have HZ := hid w0
  have HZL := hid w0.len
  clear w0 w1
  go_enter Try.func6, Try.ntmps6
  go_wp2_with fail
  refine (known_any W).mono ?_
  rintro e wA ⟨rfl, f0⟩
  have F0 := hid f0
  clear f0
  by_cases hbig : 30 < len0
  · have hb2 : (30 : Int) < len0 := by omega
    have hb3 : decide (30 < len0) = true := by simpa using hbig
    go_wp2_with fail
    go_ret
    exact ⟨rfl, F0.out⟩
  have hb2 : ¬ (30 : Int) < len0 := by omega
  have hb3 : decide (30 < len0) = false := by simpa using hbig
  by_cases hbig1 : 40 < len1
  · have hb4 : (40 : Int) < len1 := by omega
    have hb5 : decide (40 < len1) = true := by simpa using hbig1
    go_wp2_with fail
    go_ret
    exact ⟨rfl, F0.out⟩
  have hb4 : ¬ (40 : Int) < len1 := by omega
  have hb5 : decide (40 < len1) = false := by simpa using hbig1
  have hlen : (len0 : Int) ≤ 30 := by omega
  have hlen1 : (len1 : Int) ≤ 40 := by omega
  have HLE := hid (And.intro (show len0 ≤ 30 by omega) (show len1 ≤ 40 by omega))
  clear hbig hbig1
  go_wp2_with fail
  refine (Own.new W wA F0.out 400).mono ?_
  rintro e wB ⟨hb, rfl, h1⟩
  have E := hid (h1.alloc 3 len0 (by omega) (words_alloc len0 (by have := HLE.out.1; omega)))
  clear h1
  go_wp2_with fail
  refine E.out.mono ?_
  rintro e wC ⟨rfl, h1⟩
  have H1 : Hid (Own W wC (.pointer (some ⟨hb, 0, none⟩)) 400 [⟨1, 3, wrt len0 z0 0⟩]) := hid (by
    have e : wrt len0 z0 0 = List.replicate len0 0 := by unfold wrt; simp
    rw [e]; exact h1)
  clear h1 hb2 hb3 hb4 hb5
  go_wp2_with fail
  go_loopw [7, 8] (fun e i wr => ∃ k : Nat, e = .int .i64 0 ∧ i = .int .i64 k ∧ k ≤ len0 ∧ Hid (Own W wr (.pointer (some ⟨hb, 0, none⟩)) 400 [⟨1, 3, wrt len0 z0 k⟩])) (fun _ i _ => len0 - (intOf i).toNat)
  case atStart => exact ⟨0, rfl, rfl, by omega, H1⟩
  case round =>
    obtain ⟨k, rfl, rfl, hk, hown⟩ := hrel
    by_cases hkl : k < len0
    · have hkl2 : (k : Int) < len0 := by omega
      obtain ⟨b1, o1, rfl, hc0, hwf⟩ := HZ.out.cell k hkl
      have hc1 := hown.out.fr.cell hc0 (by simp)
      obtain ⟨y, hy⟩ : ∃ y, y = z0.getD k 0 := ⟨_, rfl⟩
      rw [← hy] at hc1
      have hwl := wrt_length (m := len0) (z := z0) (k := k) hk HZL.out
      have hp := put_mem (o := ⟨1, 3, wrt len0 z0 k⟩) (i := k) hown.out.rise (by simp) (by rw [hwl]; exact hkl) y
      have E := hid (hown.out.put 1 k y)
      have e1 : putE [⟨1, 3, wrt len0 z0 k⟩] 1 k = 0 := hp.1
      have e2 : putL [⟨1, 3, wrt len0 z0 k⟩] 1 k y = [⟨1, 3, wrt len0 z0 (k + 1)⟩] := by
        refine hp.2.trans ?_
        rw [← wrt_set hkl HZL.out, hy]
        rfl
      rw [e1, e2] at E
      clear hc0 hwf hy hwl hp e1 e2 hown
      go_wp2_with fail
      refine E.out.mono ?_
      rintro e w2 ⟨rfl, hB⟩
      have H2 := hid hB
      clear hB
      go_wp2_with fail
      go_roundw
      case rel => exact ⟨k + 1, rfl, by go_num, by omega, H2⟩
      case measure => simp [intOf]; omega
    · obtain rfl : k = len0 := by omega
      have hkl2 : ¬ (k : Int) < k := by omega
      have hkl3 : decide (k < k) = false := by simp
      have HQ : Hid (WQ W wr (.pointer (some ⟨hb, 0, none⟩)) (.slice none 0 0) [] [⟨1, 3, wrt k z0 k⟩] (wrt k z0 k)) := hid ⟨OwnQ.start hown.out, Match.of_rise hown.out.rise, by simp⟩
      obtain ⟨vs, hvs⟩ : ∃ vs, vs = wrt k z0 k := ⟨_, rfl⟩
      obtain ⟨L0, hL0⟩ : ∃ L, L = [(⟨1, 3, wrt k z0 k⟩ : Ob)] := ⟨_, rfl⟩
      rw [← hL0] at HQ
      rw [← hvs] at HQ
      have HVS := hid hvs
      clear hown hvs hL0 hkl
      go_wp2_with fail
      clear hkl2 hkl3
      go_loopw [9, 10] (fun v i wr => ∃ ii : Nat, i = .int .i64 ii ∧ ii ≤ len1 ∧ Hid (WQx W hb v vs ii wr)) (fun _ i _ => len1 - (intOf i).toNat)
      case atStart => exact ⟨0, rfl, by omega, hid ⟨_, _, HQ.out, by simp⟩⟩
      case round =>
        obtain ⟨ii, rfl, hii, hr⟩ := hrel
        obtain ⟨l, L, hwq, hlk⟩ := hr.out
        by_cases hi : ii < len1
        · have hi2 : (ii : Int) < len1 := by omega
          obtain ⟨b1, o1, rfl, hc0, hwf⟩ := HR.out.cell ii hi
          have hc1 := hwq.own.own.fr.cell hc0 (by simp)
          obtain ⟨y0, y1⟩ := u8_bounds hwf
          obtain ⟨y, hy⟩ : ∃ y, y = z1.getD ii 0 := ⟨_, rfl⟩
          rw [← hy] at hc1 y0 y1
          obtain ⟨s, hs, hs8⟩ : ∃ s : Nat, y % 8 = (s : Int) ∧ s < 8 := ⟨(y % 8).toNat, by omega, by omega⟩
          have hsb : (s : Int) ≤ 8 := by omega
          have hiib : (ii : Int) ≤ 40 := by have := HLE.out.2; omega
          obtain ⟨av, cv, hv, hcv, hcv2⟩ := hwq.own.sl.form
          subst hv
          obtain ⟨ln, hln⟩ : ∃ n, n = l.length := ⟨_, rfl⟩
          rw [← hln] at hcv hwq hlk ⊢
          have hlnb : (ln : Int) ≤ 40 := by have := HLE.out.2; omega
          have HLN := hid hln
          have HLK := hid hlk
          have HWQ := hid hwq
          unfold maxLen at hcv2
          have HC0 := hid (And.intro hc0 hy.symm)
          clear hln hlk hwq hwf hc0 hy hr
          obtain ⟨cb, hcbe⟩ : ∃ cb : Bool, cb = decide (y % 3 = 0 ∧ 0 < ln) := ⟨_, rfl⟩
          have HCB := hid hcbe
          clear hcbe
          go_upto_region 15 with (fail)
          go_cut [79] from 69 to 79 (fun c wx => c = .bool cb ∧ wx = wr)
          case first =>
            by_cases hA : y % 3 = 0
            · have hA2 : (y % 3 == 0) = true := by simpa using hA
              by_cases hB : 0 < ln
              · have hB2 : decide (0 < ln) = true := by simpa using hB
                have hB4 : (0 : Int) < ln := by omega
                have hA3 : decide (y % 3 = 0 ∧ 0 < ln) = true := by rw [decide_eq_true_eq]; exact ⟨hA, hB⟩
                have HA3 := hid hA3
                clear hA hA3 hB
                go_wp2_with fail
                go_meet
                case rel => exact ⟨by rw [HCB.out, HA3.out], rfl⟩
              · have hB2 : decide (0 < ln) = false := by simpa using hB
                have hA3 : decide (y % 3 = 0 ∧ 0 < ln) = false := by rw [decide_eq_false_iff_not]; omega
                have HA3 := hid hA3
                have HB := hid hB
                clear hA hA3 hB
                go_wp2_with fail
                go_meet
                case rel => exact ⟨by rw [HCB.out, HA3.out], rfl⟩
            · have hA2 : (y % 3 == 0) = false := by simpa using hA
              have hA3 : decide (y % 3 = 0 ∧ 0 < ln) = false := by rw [decide_eq_false_iff_not]; omega
              have HA3 := hid hA3
              have HA := hid hA
              clear hA hA3
              go_wp2_with fail
              go_meet
              case rel => exact ⟨by rw [HCB.out, HA3.out], rfl⟩
          case rest =>
            obtain ⟨rfl, rfl⟩ := hcut
            cases cb with
            | true =>
              have hlnz : 0 < ln := by
                have := (decide_eq_true_iff.1 (HCB.out.symm)).2
                omega
              obtain ⟨x0, r, rfl⟩ : ∃ x r, l = x :: r := by
                cases l with
                | nil => have := HLN.out; simp at this; omega
                | cons x r => exact ⟨x, r, rfl⟩
              have hlr : ln = r.length + 1 := by rw [HLN.out]; rfl
              obtain ⟨bq0, off, cap, hvq, k0⟩ := HWQ.out.own.sl.cell 0 (by simp)
              have hvq' : Value.slice av ln cv = .slice (some ⟨bq0, off, none⟩) ln cap := by rw [hvq, HLN.out]
              obtain ⟨e1, _, e3⟩ := Value.slice.inj hvq'
              subst e1
              subst e3
              clear hvq hvq'
              rw [show (x0 :: r).getD 0 0 = x0 from rfl, Nat.add_zero] at k0
              have hD := HWQ.out.m.drop (k := 1) (by simp)
              rw [show ((1 : Int) :: x0 :: r).getD 1 0 = x0 from rfl, show ((1 : Int) :: x0 :: r).take 1 ++ ((1 : Int) :: x0 :: r).drop (1 + 1) = (1 : Int) :: r from rfl] at hD
              have hx1 : x0 ≠ 1 := by
                have := HWQ.out.m.1
                simp at this
                exact fun e => this.1.1 e.symm
              have hh : has L x0 = true := HWQ.out.m.has (by simp)
              have hV : (⟨1, 3, vs⟩ : Ob) ∈ relL L x0 := by
                unfold relL
                rw [hh, if_pos rfl]
                unfold arDrop
                refine List.mem_filter.2 ⟨HWQ.out.mem, ?_⟩
                simp only [Bool.not_eq_true', decide_eq_false_iff_not]
                exact fun e => hx1 e.symm
              have E := hid (HWQ.out.own.own.release x0)
              rw [hD.1] at E
              have HM2 := hid hD.2
              have HV := hid hV
              have hlnz2 : (0 : Int) < ln := by omega
              have HLR := hid hlr
              clear hD hx1 hh hV hlr
              go_wp2_with fail
              refine E.out.mono ?_
              rintro e w2 ⟨rfl, hB⟩
              have H2 := hid (HWQ.out.own.next hB)
              clear hB k0
              by_cases hc1' : cv = 1
              · have hln1 : ln = 1 := by omega
                subst hc1'
                subst hln1
                have hr0 : r.length = 0 := by have := HLR.out; omega
                have hq := H2.out.sl
                have hqn : Qu w2 (.slice (some ⟨bq0, off, none⟩) 0 0) r := by
                  have h1 : Qu w2 (.slice (some ⟨bq0, off, none⟩) (r.length + 1) 1) (x0 :: r) := by rw [hr0]; exact hq
                  have := h1.tailB rfl
                  rw [hr0] at this
                  exact this
                have HN := hid (show OwnQ W w2 (.pointer (some ⟨hb, 0, none⟩)) 400 (relL L x0) (.slice (some ⟨bq0, off, none⟩) 0 0) r from ⟨H2.out.own, hqn, H2.out.nw⟩)
                clear hq hqn
                go_wp2_with fail
                go_roundw
                case rel => exact ⟨ii + 1, by go_num, by omega, hid ⟨r, relL L x0, ⟨HN.out, HM2.out, HV.out⟩, by have := HLK.out; omega⟩⟩
                case measure => simp [intOf]; omega
              · have hq := H2.out.sl
                have hqn : Qu w2 (.slice (some ⟨bq0, off + 1, none⟩) (ln - 1) (cv - 1)) r := by
                  have h1 : Qu w2 (.slice (some ⟨bq0, off, none⟩) (r.length + 1) cv) (x0 :: r) := by rw [← HLR.out]; exact hq
                  have := h1.tailA hc1'
                  rw [show ln - 1 = r.length by have := HLR.out; omega]
                  exact this
                have HN := hid (show OwnQ W w2 (.pointer (some ⟨hb, 0, none⟩)) 400 (relL L x0) (.slice (some ⟨bq0, off + 1, none⟩) (ln - 1) (cv - 1)) r from ⟨H2.out.own, hqn, H2.out.nw⟩)
                have hl1 : (1 : Int) ≤ ln := by omega
                clear hq hqn
                go_wp2_with fail
                go_roundw
                case rel => exact ⟨ii + 1, by go_num, by omega, hid ⟨r, relL L x0, ⟨HN.out, HM2.out, HV.out⟩, by have h1 := HLK.out; have h2 := HLR.out; omega⟩⟩
                case measure => simp [intOf]; omega
            | false =>
              cases har : arAlloc 400 L 4 s with
              | none =>
                have E := hid (HWQ.out.own.own.alloc_no 4 s (by omega) har)
                clear har
                go_wp2_with fail
                refine E.out.mono ?_
                rintro e w2 ⟨rfl, hB⟩
                have H2 := hid (HWQ.out.own.next hB)
                clear hB
                go_wp2_with fail
                go_roundw
                case rel => exact ⟨ii + 1, by go_num, by omega, hid ⟨l, L, ⟨H2.out, HWQ.out.m, HWQ.out.mem⟩, by have h1 := HLK.out; have h2 := HLN.out; omega⟩⟩
                case measure => simp [intOf]; omega
              | some xl =>
                obtain ⟨x, L'⟩ := xl
                have E := hid (HWQ.out.own.own.alloc 4 s (by omega) har)
                have hM2 := HWQ.out.m.add HWQ.out.own.own.own.rise har
                obtain ⟨hp, hL'⟩ := arAlloc_some har
                have hxn := place_new HWQ.out.own.own.own.rise hp _ HWQ.out.mem
                have hmV : (⟨1, 3, vs⟩ : Ob) ∈ L' := by rw [hL']; exact (insOb_mem _ _ _).2 (.inr HWQ.out.mem)
                have hmN : newOb x 4 s ∈ L' := by rw [hL']; exact (insOb_mem _ _ _).2 (.inl rfl)
                have HM2 := hid hM2
                have HXN := hid hxn
                have HMV := hid hmV
                have HMN := hid hmN
                clear har hM2 hp hL' hxn hmV hmN
                go_wp2_with fail
                refine E.out.mono ?_
                rintro e w2 ⟨rfl, hB⟩
                have H2 : Hid (WI W hb (.slice av ln cv) l vs x s 0 w2) := hid ⟨L', HWQ.out.own.next hB, HM2.out, HMV.out, by
                  have e : wrt s (List.replicate s bigW) 0 = List.replicate s 0 := by unfold wrt; simp
                  rw [e]; exact HMN.out⟩
                clear hB
                go_wp2_with fail
                go_loopw [13] (fun i wr => ∃ k : Nat, i = .int .i64 k ∧ k ≤ s ∧ Hid (WI W hb (.slice av ln cv) l vs x s k wr)) (fun i _ => s - (intOf i).toNat)
                case atStart => exact ⟨0, rfl, by omega, H2⟩
                case round =>
                  obtain ⟨k, rfl, hk, hwi⟩ := hrel
                  obtain ⟨Lk, ho, hm, hmv, hmn⟩ := hwi.out
                  have hc2 := ho.own.fr.cell (HC0.out.1) (by simp)
                  rw [HC0.out.2] at hc2
                  by_cases hks : k < s
                  · have hks2 : (k : Int) < s := by omega
                    have hzl : s ≤ (List.replicate s bigW).length := by simp
                    have hwl := wrt_length (m := s) (z := List.replicate s bigW) (k := k) hk hzl
                    have G1 := hid (ho.own.own.get x k)
                    have hgv := getV_mem ho.own.own.rise hmn (i := k) (by rw [hwl]; exact hks)
                    rw [wrt_get hks hzl] at hgv
                    unfold QPost at G1
                    rw [hgv] at G1
                    have hpm := put_mem ho.own.own.rise hmn (i := k) (by rw [hwl]; exact hks) bigW
                    have P1 := hid (fun q => (ho.own.keep (drewN_fr wr q)).put x k bigW)
                    rw [hpm.1, hpm.2] at P1
                    have hnew : Hid (∀ w', OwnQ W w' (.pointer (some ⟨hb, 0, none⟩)) 400 (putObs Lk x k bigW) (.slice av ln cv) l → WI W hb (.slice av ln cv) l vs x s (k + 1) w') := hid (fun w' hw => by
                      refine ⟨_, hw, hm.put _ _ _, putObs_other hmv (by have := HXN.out; simp only [] at this ⊢; omega) _ _, ?_⟩
                      have := putObs_self hmn k bigW
                      have e : (⟨x, 4, wrt s (List.replicate s bigW) k⟩ : Ob).put k bigW = ⟨x, 4, wrt s (List.replicate s bigW) (k + 1)⟩ := by
                        have h1 := wrt_set (m := s) (z := List.replicate s bigW) (k := k) hks hzl
                        have h2 : (List.replicate s bigW).getD k 0 = bigW := by simp [List.getD, List.getElem?_replicate, hks]
                        rw [h2] at h1
                        unfold Ob.put
                        simp only []
                        rw [h1]
                      rw [e] at this
                      exact this)
                    have HO := hid ho
                    clear hgv hpm hwl hzl ho hm hmv hmn hwi
                    have hbw : bigW = 9223372036854775808 := rfl
                    rw [hbw] at P1
                    clear hbw
                    go_wp2_with fail
                    refine G1.out.mono ?_
                    rintro e w3 ⟨rfl, q3, rfl⟩
                    go_wp2_with fail
                    refine (P1.out q3).mono ?_
                    rintro e w4 ⟨rfl, hB⟩
                    have H4 := hid (hnew.out w4 ((HO.out.keep (drewN_fr wr q3)).next hB))
                    clear hB
                    go_wp2_with fail
                    go_roundw
                    case rel => exact ⟨k + 1, by go_num, by omega, H4⟩
                    case measure => simp [intOf]; omega
                  · obtain rfl : k = s := by omega
                    have hks2 : ¬ (k : Int) < k := by omega
                    have HS := hid (And.intro ho (And.intro hm hmv))
                    have hq := ho.sl.keep0 ((Fr.refl [] wr).alloc (.cells #[.int .i64 x] 3))
                    have HQ := hid hq
                    have hll : l.length ≤ 1000000 := by rw [← HLN.out]; omega
                    have HLL := hid hll
                    clear ho hm hmv hmn hwi hks hq hll
                    go_wp2_with (at_builtin; refine wp_append_qu rfl (.tmp 131) (.tmp 133) rfl (.slice av ln cv) l rfl HQ.out ⟨wr.heap.size, 0, none⟩ x rfl (cell_one_new wr _ _ 0 _ rfl) HLL.out ?_; intro v' w4 q4 f4 n4; obtain ⟨a4, c4, rfl, _, _⟩ := q4.form; simp only [List.length_append, List.length_singleton] at q4 n4; have Q4 := hid q4; have F4 := hid f4; have N4 := hid n4; clear q4 f4 n4)
                    go_roundw
                    case rel =>
                      refine ⟨ii + 1, by go_num, by omega, hid ⟨l ++ [(x : Int)], Lk, ⟨HS.out.1.grown (((Fr.refl _ _).alloc _).tr F4.out) Q4.out (fun b hb => ?_), HS.out.2.1, HS.out.2.2⟩, ?_⟩⟩
                      · rcases N4.out b hb with h | h
                        · exact .inl h
                        · right; rw [World.size_alloc] at h; omega
                      · have h1 := HLK.out; have h2 := HLN.out; rw [List.length_append, List.length_singleton]; omega
                    case measure => simp [intOf]; omega
        · obtain rfl : ii = len1 := by omega
          have hi2 : ¬ (ii : Int) < ii := by omega
          have hi3 : decide (ii < ii) = false := by simp
          have HW := hid hwq.own
          have hvl : vs.length = k := by rw [HVS.out]; exact wrt_length (Nat.le_refl _) HZL.out
          have HVL := hid hvl
          have HMEM := hid hwq.mem
          clear hi hwq hlk hr hvl
          go_wp2_with fail
          clear hi2 hi3
          go_loopw [16] (fun i wr2 => ∃ j : Nat, i = .int .i64 j ∧ j ≤ k ∧ Hid (OwnQ W wr2 (.pointer (some ⟨hb, 0, none⟩)) 400 L u9 l)) (fun i _ => k - (intOf i).toNat)
          case atStart => exact ⟨0, rfl, by omega, HW⟩
          case round =>
            obtain ⟨j, rfl, hj, hw⟩ := hrel
            by_cases hjl : j < k
            · have hjl2 : (j : Int) < k := by omega
              obtain ⟨b1, o1, e1, hc0, hwf⟩ := HZ.out.cell j hjl
              subst e1
              have hc1 := hw.out.own.own.fr.cell hc0 (by simp)
              obtain ⟨y, hy⟩ : ∃ y, y = z0.getD j 0 := ⟨_, rfl⟩
              rw [← hy] at hc1
              have hv2 : vs.getD j 0 = y := by
                rw [HVS.out, hy]
                exact wrt_all hjl HZL.out
              have G1 := hid (getQ hw.out.own.own (x := 1) (i := j) (v := .tuple #[.int .u64 y, .int .i64 0]) (by
                have h := getV_mem hw.out.own.own.rise HMEM.out (i := j) (by simp only []; rw [HVL.out]; exact hjl)
                simp only [] at h
                rw [hv2] at h
                exact h))
              have hyy : (y != y) = false := by simp
              clear hc0 hwf hy hv2 hjl
              go_wp2_with fail
              refine G1.out.mono ?_
              rintro e w3 ⟨rfl, q3, rfl⟩
              go_wp2_with fail
              go_roundw
              case rel => exact ⟨j + 1, by go_num, by omega, hid (hw.out.keep (drewN_fr _ _))⟩
              case measure => simp [intOf]; omega
            · obtain rfl : j = k := by omega
              have hjl2 : ¬ (j : Int) < j := by omega
              have hjl3 : decide (j < j) = false := by simp
              have C1 := hid (clsQ hw.out.own.own (x := 1) (v := .tuple #[.int .i64 3, .int .i64 0]) (clsV_mem hw.out.own.own.rise HMEM.out))
              have G2 := hid (fun q => getQ (hw.out.own.own.drewN q) (x := 1) (i := j) (v := .tuple #[.int .u64 0, .int .i64 111]) (by
                have h := getV_end hw.out.own.own.rise HMEM.out
                simp only [] at h
                rw [HVL.out] at h
                exact h))
              clear hjl
              go_wp2_with fail
              refine C1.out.mono ?_
              rintro e w3 ⟨rfl, q3, rfl⟩
              go_wp2_with fail
              refine (G2.out q3).mono ?_
              rintro e w4 ⟨rfl, q4, rfl⟩
              go_wp2_with fail
              go_ret
              exact ⟨rfl, (hw.out.keep (drewN_fr _ _)).own.own.fr⟩

end Go.Proofs.Ytgakkkifohkikaa
