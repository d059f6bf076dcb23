/-
  MonitorWaits: the walk.
-/
import Derived.Test.YthdmgjkipiaccaaMonL2
import Derived.Test.YthdmgjkipiaccaaWaitsP
import Derived.Test.YthdmgjkipiaccaaRowU
import Derived.Deep.LoopGhost
namespace Go.Proofs.Ythdmgjkipiaccaa
open Go.RowKit

def WA (W wr : World) (tb d kn : Nat) (i : Value) : Prop :=
  ∃ (j : Nat) (v : Int), i = .int .i64 v ∧ Hid (v = (j + 1 : Nat)) ∧ j ≤ kn ∧ Hid (Own W wr (.pointer (some ⟨tb, 0, none⟩)) (wRun d j) (4 * j))
def WB (W wr : World) (tb d k : Nat) (id : Int) (i : Value) : Prop :=
  ∃ (j : Nat) (v : Int), i = .int .i64 v ∧ Hid (v = (j : Nat)) ∧ j ≤ d ∧ Hid (Own W wr (.pointer (some ⟨tb, 0, none⟩)) (wEnt (wRun d k) id j) (4 * k + j))
def WC (W wr : World) (tb d kn : Nat) (all : Bool) (o i : Value) : Prop :=
  ∃ (j : Nat) (v ow : Int), i = .int .i64 v ∧ o = .int .i64 ow ∧ Hid (v = (j + 1 : Nat)) ∧ Hid (ow = wOwn j) ∧ j ≤ wWant kn all ∧ Hid (Own W wr (.pointer (some ⟨tb, 0, none⟩)) (wX d kn all j) (40 + 4 * j))
def WD (W wr : World) (tb d kn : Nat) (all : Bool) (j g : Nat) (x : Value) : Prop :=
  ∃ (c : Nat) (v : Int), x = .int .i64 v ∧ Hid (v = if c = wCnt d j then ((j + 1 : Nat) : Int) else 0) ∧ c + g = wCnt d j ∧ Hid (Own W wr (.pointer (some ⟨tb, 0, none⟩)) (wEx (wX d kn all j) (wOwn j) c) (40 + 4 * j + c))

set_option maxRecDepth 20000 in
set_option maxHeartbeats 2000000 in
theorem waits_walk (a0 a1 : Int) (a2 : Bool) (W : World) (w0 : (Lit.int .u8 a0).wf = true) (w1 : (Lit.int .u8 a1).wf = true) :
    Calls Try.prog 4 #[.int .u8 a0, .int .u8 a1, .bool a2] W fun e w' => e = .returned (.bool true) ∧ Fr [] W w' := by
  obtain ⟨b0, b1⟩ := u8_bounds w0
  obtain ⟨b2, b3⟩ := u8_bounds w1
  clear w0 w1
  go_enter Try.func4, Try.ntmps4
  go_wp2_with fail
  refine (known_any W).mono ?_
  rintro e wA ⟨rfl, f0⟩
  go_wp2_with fail
  refine (Own.new W wA f0).mono ?_
  rintro e wB ⟨tb, rfl, h1⟩
  have H1 := hid h1
  clear h1 f0
  go_wp2_with fail
  obtain ⟨kn, hk, hk1, hk8⟩ : ∃ kn : Nat, a0 % 8 + 1 = (kn : Int) ∧ 1 ≤ kn ∧ kn ≤ 8 := ⟨(a0 % 8 + 1).toNat, by omega, by omega, by omega⟩
  obtain ⟨d, hd, hd1, hd3⟩ : ∃ d : Nat, a1 % 3 + 1 = (d : Int) ∧ 1 ≤ d ∧ d ≤ 3 := ⟨(a1 % 3 + 1).toNat, by omega, by omega, by omega⟩
  rw [hk, hd]
  generalize hkv : (kn : Int) = kv
  generalize hdv : (d : Int) = dv
  have HKV := hid hkv
  have HDV := hid hdv
  clear hkv hdv hk hd b0 b1 b2 b3
  go_loopw [10] (fun i wr => WA W wr tb d kn i) (fun i _ => kn + 1 - (intOf i).toNat)
  case atStart => exact ⟨0, 1, rfl, rfl, by omega, H1.out⟩
  case round =>
    obtain ⟨j, v, rfl, hv, hj, hown⟩ := hrel
    by_cases hlt : j < kn
    · have hle : decide (v ≤ kv) = true := by rw [decide_eq_true_eq, hv.out, ← HKV.out]; omega
      have HLE := hid hle
      clear hj
      go_wp2_with fail
      clear hle
      go_loopw [11] (fun i wr => WB W wr tb d j v i) (fun i _ => d - (intOf i).toNat)
      case atStart => exact ⟨0, 0, rfl, rfl, by omega, hown.out⟩
      case round =>
        obtain ⟨i, u, rfl, hu, hi, hownB⟩ := hrel
        by_cases hid2 : i < d
        · have hlt2 : decide (u < dv) = true := by rw [decide_eq_true_eq, hu.out, ← HDV.out]; omega
          have he := w_enter d (by omega) j (by omega) i hid2
          rw [← hv.out] at he
          have HE := hid (hownB.out.enter (by omega) 9 v he)
          clear he
          go_wp2_with fail
          refine HE.out.mono ?_
          rintro e w2 ⟨rfl, hB⟩
          have HB := hid hB
          clear hB
          go_wp2_with fail
          have hw : wrap64 (u + 1) = u + 1 := IntWalk.wrap64_in _ (by have := hu.out; omega)
          go_roundw
          case rel => exact ⟨i + 1, u + 1, by rw [hw], by rw [hu.out]; rfl, by omega, HB.out⟩
          case measure => have := hu.out; simp [intOf, hw]; omega
        · obtain rfl : i = d := by omega
          have hlt2 : decide (u < dv) = false := by rw [decide_eq_false_iff_not, hu.out, ← HDV.out]; omega
          obtain ⟨he, ho⟩ := w_wait i (by omega) (by omega) j (by omega)
          rw [← hv.out] at he
          have HE := hid (hownB.out.wait (by omega) 9 v he)
          have HO := hid ho
          clear he ho
          go_wp2_with fail
          clear hlt2
          refine HE.out.mono ?_
          rintro e w2 ⟨rfl, hB⟩
          have hB : Own W w2 (.pointer (some ⟨tb, 0, none⟩)) (wRun i (j + 1)) (4 * (j + 1)) := by
            have := hB.mono (m := 4 * (j + 1)) (by omega) (by omega)
            rw [hv.out] at this
            exact this
          have HB := hid hB
          clear hB
          go_wp2_with fail
          refine (HB.out.lock 9).mono ?_
          rintro e w3 ⟨⟨ve, vw, rfl, s1, s2, _⟩, hB3⟩
          obtain ⟨a1', c1, rfl, _, _⟩ := s1.form
          obtain ⟨a2', c2, rfl, _, _⟩ := s2.form
          rw [HO.out]
          have HB3 := hid hB3
          have hfl := fld0
          clear s1 s2 hB3
          go_wp2_with fail
          have hw : wrap64 (v + 1) = v + 1 := IntWalk.wrap64_in _ (by have := hv.out; omega)
          go_roundw
          case rel => exact ⟨j + 1, v + 1, by rw [hw], by rw [hv.out]; rfl, by omega, HB3.out⟩
          case measure => have := hv.out; simp [intOf, hw]; omega
    · obtain rfl : j = kn := by omega
      have hle : decide (v ≤ kv) = false := by rw [decide_eq_false_iff_not, hv.out, ← HKV.out]; omega
      have he := w_enter100 d (by omega) (by omega) j (by omega)
      have HE := hid (hown.out.enter (by omega) 9 100 he)
      clear he
      go_wp2_with fail
      refine HE.out.mono ?_
      rintro e w2 ⟨rfl, hB⟩
      have HB : Hid (Own W w2 (.pointer (some ⟨tb, 0, none⟩)) (wE d j) 40) := hid (hB.mono (by omega) (by omega))
      clear hB hle HE hown
      obtain ⟨hn1, hn2, hn3⟩ := w_notify a2 (by cases a2 <;> simp) d (by omega) (by omega) j (by omega) hk1
      have HN := hid (HB.out.notify 9 100 a2 hn1)
      have hwk : wWant j a2 ≤ j := by unfold wWant; split <;> omega
      have HN2 := hid hn2
      have HN3 := hid hn3
      clear hn1 hn2 hn3
      go_wp2_with fail
      refine HN.out.mono ?_
      rintro e w3 ⟨rfl, hB⟩
      have HB3 : Hid (Own W w3 (.pointer (some ⟨tb, 0, none⟩)) (wN d j a2) 40) := hid hB
      clear hB
      generalize hwv : (wWant j a2 : Int) = wv
      have HWV := hid hwv
      have hcase : (a2 = true ∧ wv = kv) ∨ (a2 = false ∧ wv = 1) := by
        have := HKV.out
        cases a2
        · exact .inr ⟨rfl, by rw [← hwv]; rfl⟩
        · exact .inl ⟨rfl, by rw [← hwv, ← this]; rfl⟩
      have HL1 := hid (show (((((wN d j a2).at 9).entry.length : Nat) : Int) != wv) = false by rw [HN2.out, hwv]; simp)
      have HL2 := hid (show (((((wN d j a2).at 9).wait.length : Nat) : Int) != wrap64 (kv - wv)) = false by
        have := HKV.out
        have e : (((wN d j a2).at 9).wait.length : Int) = kv - wv := by rw [HN3.out]; omega
        rw [e, IntWalk.wrap64_in _ (by omega)]; simp)
      clear hwv HN
      obtain ⟨al, hal⟩ : ∃ al, al = a2 := ⟨_, rfl⟩
      rw [← hal] at HB3 HWV HL1 HL2 hwk HN2 HN3
      have HAL := hid hal
      clear hal
      rcases hcase with ⟨rfl, rfl⟩ | ⟨rfl, rfl⟩
      all_goals
        go_wp2_with fail
        refine (HB3.out.lock 9).mono ?_
        rintro e w4 ⟨⟨ve, vw, rfl, s1, s2, _⟩, hB4⟩
        obtain ⟨a1', c1, rfl, _, _⟩ := s1.form
        obtain ⟨a2', c2, rfl, _, _⟩ := s2.form
        have HB4 := hid hB4
        have hfl := fld3
        have hl1 := HL1.out
        clear s1 s2 hB4
        go_wp2_with fail
        clear hl1
        refine (HB4.out.lock 9).mono ?_
        rintro e w5 ⟨⟨ve, vw, rfl, s1, s2, _⟩, hB5⟩
        obtain ⟨a3', c3, rfl, _, _⟩ := s1.form
        obtain ⟨a4', c4, rfl, _, _⟩ := s2.form
        have HB5 := hid hB5
        have hfl4 := fld4
        have hl2 := HL2.out
        clear s1 s2 hB5 hfl
        have hl3 := hl2
        first | simp only [Int.sub_self, IntWalk.wrap64_in 0 (by omega)] at hl3 | skip
        go_wp2_with fail
        clear hl2 hl3 hfl4
        go_loopw [21, 22] (fun o i wr => WC W wr tb d j al o i) (fun _ i _ => j + 1 - (intOf i).toNat)
        case atStart => exact ⟨0, 1, 100, rfl, rfl, rfl, rfl, by omega, HB5.out⟩
        case round =>
          obtain ⟨m, u, ow, rfl, rfl, hu, how, hm, hown⟩ := hrel
          have hall : ∀ b : Bool, b ∈ [true, false] := by intro b; cases b <;> simp
          have hwj : wWant j al ≤ j := hwk
          by_cases hlt : m < wWant j al
          · first | have hle : decide (u ≤ wv) = true := by rw [decide_eq_true_eq, hu.out, ← HWV.out]; omega | have hle : decide (u ≤ 1) = true := by rw [decide_eq_true_eq, hu.out, ← HWV.out]; omega
            have HU := hid (show u ≠ 0 by rw [hu.out]; omega)
            have hcnt : 1 ≤ wCnt d m := by cases m <;> simp [wCnt, hd1]
            have hcnt3 : wCnt d m ≤ 3 := by cases m <;> simp [wCnt, hd3]
            go_wp2_with fail
            clear hle
            go_loopg [23] (wCnt d m) (fun g x wr => WD W wr tb d j al m g x)
            case atStart => exact ⟨0, 0, rfl, (if_neg (by omega)).symm, by omega, hown.out⟩
            case round =>
              obtain ⟨c, x, rfl, hx, hc, hownD⟩ := hrel
              by_cases hlc : c < wCnt d m
              · have hx0 : x = 0 := by rw [hx.out, if_neg (by omega)]
                subst hx0
                obtain ⟨y, hy⟩ : ∃ y : Int, y = if c + 1 = wCnt d m then ((m + 1 : Nat) : Int) else 0 := ⟨_, rfl⟩
                have he : ((wEx (wX d j al m) (wOwn m) c).exit 9 ow).1 = (y, 0) := by rw [how.out, hy]; exact w_exit al (hall al) d (by omega) hd1 j (by omega) (by omega) m hlt c hlc
                have HE := hid (hownD.out.exit (by omega) 9 ow he)
                have HY := hid hy
                clear he hx hownD hy
                go_wp2_with fail
                refine HE.out.mono ?_
                rintro e w6 ⟨rfl, hB⟩
                have HB6 := hid hB
                clear hB HE
                go_wp2_with fail
                go_roundg (gk - 1)
                case measure => omega
                case rel => exact ⟨c + 1, y, rfl, HY.out, by omega, by have := HB6.out; rw [how.out] at this; exact this⟩
              · obtain rfl : c = wCnt d m := by omega
                rw [if_pos rfl] at hx
                have hxu := hid (show x = u by rw [hx.out, hu.out])
                have hxu : (x == 0) = false := by rw [hx.out]; simp; omega
                obtain rfl : x = u := by rw [hx.out, hu.out]
                obtain ⟨k1, k2⟩ := w_at al (hall al) d (by omega) hd1 j (by omega) (by omega) m hlt
                have HK1 := hid (show ((wX d j al (m + 1)).at 9).owner = x by rw [k1, hu.out])
                have HK2 := hid (show ((wX d j al (m + 1)).at 9).count = dv by rw [k2, HDV.out])
                have HB6 : Hid (Own W wr (.pointer (some ⟨tb, 0, none⟩)) (wX d j al (m + 1)) (40 + 4 * (m + 1))) := hid (hownD.out.mono (by omega) (by omega))
                clear k1 k2 hx hownD
                go_wp2_with fail
                clear hxu
                refine (HB6.out.lock 9).mono ?_
                rintro e w7 ⟨⟨ve, vw, rfl, s1, s2, _⟩, hB7⟩
                obtain ⟨a1', c1, rfl, _, _⟩ := s1.form
                obtain ⟨a2', c2, rfl, _, _⟩ := s2.form
                rw [HK1.out]
                have HB7 := hid hB7
                have hfl := fld0
                clear s1 s2 hB7
                go_wp2_with fail
                refine (HB7.out.lock 9).mono ?_
                rintro e w8 ⟨⟨ve, vw, rfl, s1, s2, _⟩, hB8⟩
                obtain ⟨a3', c3, rfl, _, _⟩ := s1.form
                obtain ⟨a4', c4, rfl, _, _⟩ := s2.form
                rw [HK2.out]
                have HB8 := hid hB8
                have hfl1 := fld1
                clear s1 s2 hB8 hfl
                go_wp2_with fail
                have hw : wrap64 (x + 1) = x + 1 := IntWalk.wrap64_in _ (by have := hu.out; omega)
                go_roundw
                case rel => exact ⟨m + 1, x + 1, x, by rw [hw], rfl, by rw [hu.out]; rfl, by rw [hu.out]; rfl, by omega, HB8.out⟩
                case measure => have := hu.out; simp [intOf, hw]; omega
          · obtain rfl : m = wWant j al := by omega
            first | have hle : decide (u ≤ wv) = false := by rw [decide_eq_false_iff_not, hu.out, ← HWV.out]; omega | have hle : decide (u ≤ 1) = false := by rw [decide_eq_false_iff_not, hu.out, ← HWV.out]; omega
            obtain ⟨k1, k2⟩ := w_last al (hall al) d (by omega) hd1 j (by omega) (by omega)
            have HE := hid (hown.out.notify 9 200 true k1)
            have HK2 := hid k2
            clear k1 k2
            go_wp2_with fail
            clear hle
            refine HE.out.mono ?_
            rintro e w6 ⟨rfl, hB⟩
            have HB6 := hid hB
            clear hB
            go_wp2_with fail
            refine (HB6.out.lock 9).mono ?_
            rintro e w7 ⟨⟨ve, vw, rfl, s1, s2, _⟩, hB7⟩
            obtain ⟨a1', c1, rfl, _, _⟩ := s1.form
            obtain ⟨a2', c2, rfl, _, _⟩ := s2.form
            rw [HK2.out]
            have HB7 := hid hB7
            have hfl := fld3
            clear s1 s2 hB7
            go_wp2_with fail
            go_ret
            exact ⟨rfl, HB7.out.fr⟩

end Go.Proofs.Ythdmgjkipiaccaa
