/-
  GcCollects: the walk's first part.
-/
import Derived.Test.YtgakkkifohkikaaOrdT
import Derived.Test.YtgakkkifohkikaaCollP
import Derived.Test.YtgakkkifohkikaaCollO
import Derived.Test.YtgakkkifohkikaaCollR
import Derived.Test.YtgakkkifohkikaaMadeW
import Derived.Deep.Cut
import Derived.Deep.CutRange
import Derived.BigQuiet
namespace Go.Proofs.Ytgakkkifohkikaa
open Go.RowKit

/-- behind the reference's reading -/
def SeC (W : World) (hb rb fb tb ab : Nat) (vf vt v0 : Value) (L : List Ob) (at' fs ts : List Int) (c : Value) (wx : World) : Prop :=
  ∃ sv cs s2, c = .slice sv L.length cs ∧ SeenBy L at' fs ts s2 ∧ Sto W wx (.pointer (some ⟨hb, 0, none⟩)) (.pointer (some ⟨rb, 0, none⟩)) 600 L L [.co ab fb tb (.slice none 0 0) vf vt fs ts [], .sl v0 at', .bo (.slice sv L.length cs) s2]
/-- the items in the order in which the rest wants them -/
theorem Sto.order {W w : World} {p q vl v0 vf vt va vs : Value} {n : Nat} {L M : List Ob} {ab fb tb : Nat} {l at' fs ts : List Int} {s : List Bool}
    (h : Sto W w p q n L M [.sl vl l, .box fb vf fs, .box tb vt ts, .sl v0 at', .box ab va [], .bo vs s]) : Sto W w p q n L M [.co ab fb tb va vf vt fs ts [], .sl v0 at', .bo vs s] := by
  have hap := h.ap
  simp only [List.pairwise_cons, List.mem_cons, List.not_mem_nil, or_false, forall_eq_or_imp, forall_eq] at hap
  obtain ⟨_, ⟨b1, b2, b3, b4⟩, ⟨c1, c2, c3⟩, ⟨d1, d2⟩, e1, _⟩ := hap
  have sw : ∀ {u v : It}, (∀ b ∈ u.bl, b ∉ v.bl) → ∀ b ∈ v.bl, b ∉ u.bl := fun h b hb hm => h b hm hb
  have hsub : ∀ i ∈ [It.box ab va [], .box fb vf fs, .box tb vt ts, .sl v0 at', .bo vs s], i ∈ [It.sl vl l, .box fb vf fs, .box tb vt ts, .sl v0 at', .box ab va [], .bo vs s] := by
    intro i hi
    simp only [List.mem_cons, List.not_mem_nil, or_false] at hi ⊢
    rcases hi with rfl | rfl | rfl | rfl | rfl <;> simp
  have hb : ∀ b ∈ blI [It.box ab va [], .box fb vf fs, .box tb vt ts, .sl v0 at', .bo vs s], b ∈ blI [It.sl vl l, .box fb vf fs, .box tb vt ts, .sl v0 at', .box ab va [], .bo vs s] := fun b hb => by
    obtain ⟨u, hu, hb⟩ := mem_blI.1 hb
    exact mem_blI.2 ⟨u, hsub u hu, hb⟩
  refine Sto.three (is := [.sl v0 at', .bo vs s]) ⟨h.ba.other (Fr.refl [] w) (by simp) (fun a ha => ⟨.inl (hb a ha), ?_⟩), fun i hi => h.ok i (hsub i hi), fun b h1 => h.nw b (hb b h1), ?_⟩
  · obtain ⟨u, hu, h1⟩ := mem_blI.1 ha
    exact It.lt (h.ok u (hsub u hu)) a h1
  · simp only [List.pairwise_cons, List.mem_cons, List.not_mem_nil, or_false, forall_eq_or_imp, forall_eq, List.Pairwise.nil, and_true, false_implies, implies_true]
    exact ⟨⟨sw b3, sw c2, sw d1, e1⟩, ⟨b1, b2, b4⟩, ⟨c1, c3⟩, d2⟩
/-- behind some edges -/
structure CoA (W w : World) (hb rb : Nat) (L : List Ob) (l fs ts : List Int) (vl vf vt : Value) (fb tb j : Nat) : Prop where
  st : Sto W w (.pointer (some ⟨hb, 0, none⟩)) (.pointer (some ⟨rb, 0, none⟩)) 600 L L [.sl vl l, .box fb vf fs, .box tb vt ts]
  le : fs.length ≤ j
  eq : fs.length = ts.length

set_option maxRecDepth 20000 in
set_option maxHeartbeats 4000000 in
theorem coll_walk (a0 : Option Addr) (len0 cap0 : Nat) (z0 : List Int) (a1 : Option Addr) (len1 cap1 : Nat) (z1 : List Int) (a2 : Option Addr) (len2 cap2 : Nat) (a3 : Option Addr) (len3 cap3 : Nat) (z3 : List Int) (bad : Int) (W : World)
    (w0 : IsRow .u8 W a0 len0 cap0 z0) (w1 : IsRow .u8 W a1 len1 cap1 z1) (w2 : IsEdges W a2 len2) (w3 : IsRow .u8 W a3 len3 cap3 z3) :
    Calls Try.prog 11 #[.slice a0 len0 cap0, .slice a1 len1 cap1, .slice a2 len2 cap2, .slice a3 len3 cap3, .int .i64 bad] W fun e w' => e = .returned (.bool true) ∧ Fr [] W w' := by
  have H0 := hid w0
  have H1 := hid w1
  have H2 := hid w2
  have H3 := hid w3
  clear w0 w1 w2 w3
  go_enter Try.func11, Try.ntmps11
  go_wp2_with fail
  refine (known12_any W).mono ?_
  rintro e wA ⟨rfl, fA⟩
  have FA := hid fA
  clear fA
  by_cases g1 : (30 : Int) < len0
  · go_wp2_with fail
    go_ret
    exact ⟨rfl, FA.out⟩
  by_cases g2 : (10 : Int) < len1
  · have g1' : decide ((30 : Int) < len0) = false := by simpa using g1
    clear g1
    go_wp2_with fail
    go_ret
    exact ⟨rfl, FA.out⟩
  by_cases g3 : (60 : Int) < len2
  · have g1' : decide ((30 : Int) < len0) = false := by simpa using g1
    have g2' : decide ((10 : Int) < len1) = false := by simpa using g2
    clear g1 g2
    go_wp2_with fail
    go_ret
    exact ⟨rfl, FA.out⟩
  by_cases g4 : (12 : Int) < len3
  · have g1' : decide ((30 : Int) < len0) = false := by simpa using g1
    have g2' : decide ((10 : Int) < len1) = false := by simpa using g2
    have g3' : decide ((60 : Int) < len2) = false := by simpa using g3
    clear g1 g2 g3
    go_wp2_with fail
    go_ret
    exact ⟨rfl, FA.out⟩
  have HM := hid (made_any (w := wA) FA.out H0.out H1.out (by omega) (by omega))
  have g1' : decide ((30 : Int) < len0) = false := by simpa using g1
  have g2' : decide ((10 : Int) < len1) = false := by simpa using g2
  have g3' : decide ((60 : Int) < len2) = false := by simpa using g3
  have g4' : decide ((12 : Int) < len3) = false := by simpa using g4
  have B1 := hid (show len0 ≤ 30 by omega)
  have B2 := hid (show len2 ≤ 60 by omega)
  have B3 := hid (show len3 ≤ 12 by omega)
  clear g1 g2 g3 g4
  go_wp2_with fail
  refine HM.out.mono ?_
  rintro e wB ⟨hb, rb, vl, l, L, rfl, hB, hl, -⟩
  have HLL := hid hl
  have hst := hB.sto
  obtain ⟨al, cl, rfl, _, _⟩ := hB.sl.form
  rw [hl] at hst ⊢
  have HS0 := hid hst
  clear hB hl hst HM g1' g2' g3' g4'
  go_wp2_with fail
  have HS1 : Hid (∃ fb tb, fb = wB.heap.size ∧ tb = fb + 1 ∧ CoA W ((wB.alloc (.cells #[.slice none 0 0] 31)).alloc (.cells #[.slice none 0 0] 31)) hb rb L l [] [] (.slice al len0 cl) (.slice none 0 0) (.slice none 0 0) fb tb 0) := hid (by
    have h1 := (HS0.out.box).box
    rw [World.size_alloc] at h1
    exact ⟨_, _, rfl, rfl, h1, by simp, rfl⟩)
  obtain ⟨fb, tb, hfb, htb, h1⟩ := HS1.out
  have HA := hid h1
  rw [← hfb, ← htb]
  generalize (wB.alloc (.cells #[.slice none 0 0] 31)).alloc (.cells #[.slice none 0 0] 31) = wC at HA ⊢
  clear hfb htb h1 HS1 HS0
  go_loopw [16] (fun i wr => ∃ (j : Nat) (fs ts : List Int) (vf vt : Value), i = .int .i64 j ∧ j ≤ len2 ∧ Hid (CoA W wr hb rb L l fs ts (.slice al len0 cl) vf vt fb tb j)) (fun i _ => len2 - (intOf i).toNat)
  case atStart => exact ⟨0, [], [], _, _, rfl, by omega, HA⟩
  case round =>
    obtain ⟨j, fs, ts, vf, vt, rfl, hj, hr⟩ := hrel
    have HR := hid hr.out
    clear hr
    have hb1 := B1.out
    have hb2 := B2.out
    obtain ⟨cb, hcbe⟩ : ∃ cb : Bool, cb = decide (j < len2 ∧ 0 < len0) := ⟨_, rfl⟩
    have HCB := hid hcbe
    clear hcbe
    go_upto_region 10 with (fail)
    go_cut [66] from 58 to 66 (fun c wx => c = .bool cb ∧ wx = wr)
    case first =>
      by_cases hA : j < len2
      · have hA2 : (j : Int) < len2 := by omega
        by_cases hB : 0 < len0
        · have hB2 : (0 : Int) < len0 := by omega
          have hB3 : 0 < len0 := hB
          have HA3 := hid (show decide (j < len2 ∧ 0 < len0) = true from decide_eq_true ⟨hA, hB⟩)
          go_wp2_with fail
          go_meet
          case rel => exact ⟨by rw [HCB.out, HA3.out], rfl⟩
        · have hB2 : decide (0 < len0) = false := by simpa using hB
          have HA3 := hid (show decide (j < len2 ∧ 0 < len0) = false from decide_eq_false (fun h => hB h.2))
          clear hB
          go_wp2_with fail
          go_meet
          case rel => exact ⟨by rw [HCB.out, HA3.out], rfl⟩
      · have hA2 : decide (j < len2) = false := by simpa using hA
        have HA3 := hid (show decide (j < len2 ∧ 0 < len0) = false from decide_eq_false (fun h => hA h.1))
        clear hA
        go_wp2_with fail
        go_meet
        case rel => exact ⟨by rw [HCB.out, HA3.out], rfl⟩
    case rest =>
    obtain ⟨rfl, rfl⟩ := hcut
    cases cb with
    | true =>
      obtain ⟨hlt, h0⟩ := of_decide_eq_true HCB.out.symm
      have hlt2 : (j : Int) < len2 := by omega
      have h02 : (0 : Int) < len0 := by omega
      have h03 : ¬ len0 = 0 := by omega
      have hjb : (j : Int) ≤ 60 := by omega
      have hlb : (len0 : Int) ≤ 30 := by omega
      obtain ⟨be, oe, zx, zy, rfl, hcx, hcy, zx0, zx255, zy0, zy255⟩ := H2.out.cell (Fr.refl [] W) hlt
      obtain ⟨x, hx⟩ : ∃ x : Nat, zx % (len0 : Int) = (x : Int) := ⟨(zx % (len0 : Int)).toNat, by rw [Int.toNat_of_nonneg (Int.emod_nonneg _ (by omega))]⟩
      have hxk : x < len0 := by have := Int.emod_lt_of_pos zx (show (0 : Int) < len0 by omega); omega
      have hx' : Int.tmod zx (len0 : Int) = (x : Int) := by rw [Int.tmod_eq_emod_of_nonneg zx0]; exact hx
      have hxb : (x : Int) < len0 := by omega
      have hxl : x < l.length := by rw [HLL.out]; exact hxk
      obtain ⟨y, hy⟩ : ∃ y : Nat, zy % (len0 : Int) = (y : Int) := ⟨(zy % (len0 : Int)).toNat, by rw [Int.toNat_of_nonneg (Int.emod_nonneg _ (by omega))]⟩
      have hyk : y < len0 := by have := Int.emod_lt_of_pos zy (show (0 : Int) < len0 by omega); omega
      have hy' : Int.tmod zy (len0 : Int) = (y : Int) := by rw [Int.tmod_eq_emod_of_nonneg zy0]; exact hy
      have hyb : (y : Int) < len0 := by omega
      have hyl : y < l.length := by rw [HLL.out]; exact hyk
      have HSL : Hid (∀ w' is, Sto W w' (.pointer (some ⟨hb, 0, none⟩)) (.pointer (some ⟨rb, 0, none⟩)) 600 L L is → It.sl (.slice al len0 cl) l ∈ is → ∃ bl, al = some ⟨bl, 0, none⟩ ∧ w'.cell? ⟨bl, x, none⟩ = some (.int .i64 (l.getD x 0)) ∧ w'.cell? ⟨bl, y, none⟩ = some (.int .i64 (l.getD y 0))) := hid (fun w' is h hi => by
        obtain ⟨b1, c1, e1, k1⟩ := (h.slc hi).cell x hxl
        obtain ⟨b2, c2, e2, k2⟩ := (h.slc hi).cell y hyl
        injection e1 with e1 _ _
        injection e2 with e2 _ _
        rw [e1] at e2
        injection e2 with e2
        injection e2 with e2
        rw [← e2] at k2
        exact ⟨b1, e1, k1, k2⟩)
      obtain ⟨bl, hal, hlx, hly⟩ := HSL.out _ _ HR.out.st (by simp)
      subst hal
      generalize l.getD x 0 = lx at hlx HSL
      generalize l.getD y 0 = ly at hly HSL
      have HCF : Hid (∀ w' is, Sto W w' (.pointer (some ⟨hb, 0, none⟩)) (.pointer (some ⟨rb, 0, none⟩)) 600 L L is → It.sl (.slice (some ⟨bl, 0, none⟩) len0 cl) l ∈ is → w'.cell? ⟨fb, 0, none⟩ = some vf → w'.cell? ⟨tb, 0, none⟩ = some vt →
          w'.cell? ⟨fb, 0, none⟩ = some vf ∧ w'.cell? ⟨tb, 0, none⟩ = some vt ∧ w'.cell? ⟨be, oe + j * 2, none⟩ = some (.int .u8 zx) ∧ w'.cell? ⟨be, oe + j * 2 + 1, none⟩ = some (.int .u8 zy) ∧ w'.cell? ⟨bl, x, none⟩ = some (.int .i64 lx) ∧ w'.cell? ⟨bl, y, none⟩ = some (.int .i64 ly)) := hid (fun w' is h hi k1 k2 => by
        obtain ⟨b, e, h1, h2⟩ := HSL.out w' is h hi
        injection e with e
        injection e with e
        rw [← e] at h1 h2
        exact ⟨k1, k2, h.fr.cell hcx (by simp), h.fr.cell hcy (by simp), h1, h2⟩)
      clear hcx hcy hx hxk hxl hy hyk hyl HSL hlx hly HCB
      have hwx : IntKind.i64.wrap zx = zx := by rw [IntKind.wrap_i64]; omega
      have hwy : IntKind.i64.wrap zy = zy := by rw [IntKind.wrap_i64]; omega
      obtain ⟨nf1, hnf1⟩ : ∃ m, m = fs.length + [lx].length := ⟨_, rfl⟩
      obtain ⟨nt1, hnt1⟩ : ∃ m, m = ts.length + [ly].length := ⟨_, rfl⟩
      have HNF := hid hnf1
      have HNT := hid hnt1
      clear hnf1 hnt1
      have HLF : Hid (fs.length + [lx].length ≤ 1000000) := hid (by have := HR.out.le; simp; omega)
      have HLT : Hid (ts.length + [ly].length ≤ 1000000) := hid (by have := HR.out.le; have := HR.out.eq; simp; omega)
      go_upto_region 12 with (fail)
      have HD : Hid (Sto W wc.drew (.pointer (some ⟨hb, 0, none⟩)) (.pointer (some ⟨rb, 0, none⟩)) 600 L L [.sl (.slice (some ⟨bl, 0, none⟩) len0 cl) l, .box fb vf fs, .box tb vt ts]) := hid (HR.out.st.keep (Fr.refl [] _).drew)
      refine wp_region_T (fun w' => w'.cell? ⟨fb, 0, none⟩ = some vf ∧ w'.cell? ⟨tb, 0, none⟩ = some vt ∧ w'.cell? ⟨be, oe + j * 2, none⟩ = some (.int .u8 zx) ∧ w'.cell? ⟨be, oe + j * 2 + 1, none⟩ = some (.int .u8 zy) ∧ w'.cell? ⟨bl, x, none⟩ = some (.int .i64 lx) ∧ w'.cell? ⟨bl, y, none⟩ = some (.int .i64 ly)) 30 (by kernel_rfl) (HCF.out _ _ HD.out (by simp) (HD.out.boxc (l := fs) (by simp)).1 (HD.out.boxc (l := ts) (by simp)).1) (fun hHeld => ?_)
      generalize World.drew wc = wd at HD hHeld ⊢
      refine wpAnyT_take [0] (i := 0) (v := ?v0) rfl (by kernel_rfl) (by kernel_rfl) (by kernel_rfl) (by kernel_rfl) (fun _ _ _ h => h) (Or.inl ⟨by rfl, ?y0⟩) hHeld ?r0
      case y0 => ((intro w hSw; (try dsimp only at hSw); go_simp) <;> with_reducible rfl)
      try simp only [Act.put, List.getElem_toArray, List.getElem_cons_zero, List.setIfInBounds_toArray, List.set_cons_zero, List.set_cons_succ]
      refine wpAnyT_take [1] (i := 1) (v := ?v1) rfl (by kernel_rfl) (by kernel_rfl) (by kernel_rfl) (by kernel_rfl) (fun _ _ _ h => h) (Or.inl ⟨by rfl, ?y1⟩) hHeld ?r1
      case y1 => ((intro w hSw; (try dsimp only at hSw); go_simp) <;> with_reducible rfl)
      try simp only [Act.put, List.getElem_toArray, List.getElem_cons_zero, List.getElem_cons_succ, List.setIfInBounds_toArray, List.set_cons_zero, List.set_cons_succ]
      refine wpAnyT_take [2] (i := 2) (v := ?v2) rfl (by kernel_rfl) (by kernel_rfl) (by kernel_rfl) (by kernel_rfl) (fun _ _ _ h => h) (Or.inl ⟨by rfl, ?y2⟩) hHeld ?r2
      case y2 => ((intro w hSw; (try dsimp only at hSw); go_simp) <;> with_reducible rfl)
      try simp only [Act.put, List.getElem_toArray, List.getElem_cons_zero, List.getElem_cons_succ, List.setIfInBounds_toArray, List.set_cons_zero, List.set_cons_succ]
      refine wpAnyT_take [3] (i := 3) (v := ?v3) rfl (by kernel_rfl) (by kernel_rfl) (by kernel_rfl) (by kernel_rfl) (fun _ _ _ h => h) (Or.inl ⟨by rfl, ?y3⟩) hHeld ?r3
      case y3 => ((intro w hSw; (try dsimp only at hSw); go_simp) <;> with_reducible rfl)
      try simp only [Act.put, List.getElem_toArray, List.getElem_cons_zero, List.getElem_cons_succ, List.setIfInBounds_toArray, List.set_cons_zero, List.set_cons_succ]
      refine wpAnyT_take [4] (i := 4) (v := ?v4) rfl (by kernel_rfl) (by kernel_rfl) (by kernel_rfl) (by kernel_rfl) (fun _ _ _ h => h) (Or.inl ⟨by rfl, ?y4⟩) hHeld ?r4
      case y4 => ((intro w hSw; (try dsimp only at hSw); go_simp) <;> with_reducible rfl)
      try simp only [Act.put, List.getElem_toArray, List.getElem_cons_zero, List.getElem_cons_succ, List.setIfInBounds_toArray, List.set_cons_zero, List.set_cons_succ]
      refine wpAnyT_take [5] (i := 5) (v := ?v5) rfl (by kernel_rfl) (by kernel_rfl) (by kernel_rfl) (by kernel_rfl) (fun _ _ _ h => h) (Or.inl ⟨by rfl, ?y5⟩) hHeld ?r5
      case y5 => ((intro w hSw; (try dsimp only at hSw); go_simp) <;> with_reducible rfl)
      try simp only [Act.put, List.getElem_toArray, List.getElem_cons_zero, List.getElem_cons_succ, List.setIfInBounds_toArray, List.set_cons_zero, List.set_cons_succ]
      refine wpAnyT_take [6] (i := 6) (v := ?v6) rfl (by kernel_rfl) (by kernel_rfl) (by kernel_rfl) (by kernel_rfl) (fun _ _ _ h => h) (Or.inl ⟨by rfl, ?y6⟩) hHeld ?r6
      case y6 => ((intro w hSw; (try dsimp only at hSw); go_simp) <;> with_reducible rfl)
      try simp only [Act.put, List.getElem_toArray, List.getElem_cons_zero, List.getElem_cons_succ, List.setIfInBounds_toArray, List.set_cons_zero, List.set_cons_succ]
      refine wpAnyT_take [7] (i := 7) (v := ?v7) rfl (by kernel_rfl) (by kernel_rfl) (by kernel_rfl) (by kernel_rfl) (fun _ _ _ h => h) (Or.inl ⟨by rfl, ?y7⟩) hHeld ?r7
      case y7 => ((intro w hSw; (try dsimp only at hSw); go_simp) <;> with_reducible rfl)
      try simp only [Act.put, List.getElem_toArray, List.getElem_cons_zero, List.getElem_cons_succ, List.setIfInBounds_toArray, List.set_cons_zero, List.set_cons_succ]
      refine wpAnyT_take [8] (i := 8) (v := ?v8) rfl (by kernel_rfl) (by kernel_rfl) (by kernel_rfl) (by kernel_rfl) (fun _ _ _ h => h) (Or.inl ⟨by rfl, ?y8⟩) hHeld ?r8
      case y8 => ((intro w hSw; (try dsimp only at hSw); go_simp) <;> with_reducible rfl)
      try simp only [Act.put, List.getElem_toArray, List.getElem_cons_zero, List.getElem_cons_succ, List.setIfInBounds_toArray, List.set_cons_zero, List.set_cons_succ]
      refine wpAnyT_take [9] (i := 9) (v := ?v9) rfl (by kernel_rfl) (by kernel_rfl) (by kernel_rfl) (by kernel_rfl) (fun _ _ _ h => h) (Or.inl ⟨by rfl, ?y9⟩) hHeld ?r9
      case y9 => ((intro w hSw; (try dsimp only at hSw); go_simp) <;> with_reducible rfl)
      try simp only [Act.put, List.getElem_toArray, List.getElem_cons_zero, List.getElem_cons_succ, List.setIfInBounds_toArray, List.set_cons_zero, List.set_cons_succ]
      refine wpAnyT_take [10] (i := 10) (v := ?v10) rfl (by kernel_rfl) (by kernel_rfl) (by kernel_rfl) (by kernel_rfl) (fun _ _ _ h => h) (Or.inl ⟨by rfl, ?y10⟩) hHeld ?r10
      case y10 => ((intro w hSw; (try dsimp only at hSw); go_simp) <;> with_reducible rfl)
      try simp only [Act.put, List.getElem_toArray, List.getElem_cons_zero, List.getElem_cons_succ, List.setIfInBounds_toArray, List.set_cons_zero, List.set_cons_succ]
      refine wpAnyT_take [11] (i := 11) (v := ?v11) rfl (by kernel_rfl) (by kernel_rfl) (by kernel_rfl) (by kernel_rfl) (fun _ _ _ h => h) (Or.inl ⟨by rfl, ?y11⟩) hHeld ?r11
      case y11 => ((intro w hSw; (try dsimp only at hSw); go_simp) <;> with_reducible rfl)
      try simp only [Act.put, List.getElem_toArray, List.getElem_cons_zero, List.getElem_cons_succ, List.setIfInBounds_toArray, List.set_cons_zero, List.set_cons_succ]
      refine wpAnyT_take [12] (i := 12) (v := ?v12) rfl (by kernel_rfl) (by kernel_rfl) (by kernel_rfl) (by kernel_rfl) (fun _ _ _ h => h) (Or.inl ⟨by rfl, ?y12⟩) hHeld ?r12
      case y12 => ((intro w hSw; (try dsimp only at hSw); go_simp) <;> with_reducible rfl)
      try simp only [Act.put, List.getElem_toArray, List.getElem_cons_zero, List.getElem_cons_succ, List.setIfInBounds_toArray, List.set_cons_zero, List.set_cons_succ]
      refine wpAnyT_take [29, 15] (i := 15) (v := ?v15) rfl (by kernel_rfl) (by kernel_rfl) (by kernel_rfl) (by kernel_rfl) (fun _ _ _ h => h) (Or.inl ⟨by rfl, ?y15⟩) hHeld ?r15
      case y15 => ((intro w hSw; (try dsimp only at hSw); go_simp) <;> with_reducible rfl)
      try simp only [Act.put, List.getElem_toArray, List.getElem_cons_zero, List.getElem_cons_succ, List.setIfInBounds_toArray, List.set_cons_zero, List.set_cons_succ]
      refine wpAnyT_take [29, 28, 27, 26, 16] (i := 16) (v := ?v16) rfl (by kernel_rfl) (by kernel_rfl) (by kernel_rfl) (by kernel_rfl) (fun _ _ _ h => h) (Or.inl ⟨by rfl, ?y16⟩) hHeld ?r16
      case y16 => ((intro w hSw; (try dsimp only at hSw); go_simp) <;> with_reducible rfl)
      try simp only [Act.put, List.getElem_toArray, List.getElem_cons_zero, List.getElem_cons_succ, List.setIfInBounds_toArray, List.set_cons_zero, List.set_cons_succ]
      refine wpAnyT_take [29, 28, 27, 26, 25, 22, 21, 20, 19, 17] (i := 17) (v := ?v17) rfl (by kernel_rfl) (by kernel_rfl) (by kernel_rfl) (by kernel_rfl) (fun _ _ _ h => h) (Or.inl ⟨by rfl, ?y17⟩) hHeld ?r17
      case y17 => ((intro w hSw; (try dsimp only at hSw); go_simp) <;> with_reducible rfl)
      try simp only [Act.put, List.getElem_toArray, List.getElem_cons_zero, List.getElem_cons_succ, List.setIfInBounds_toArray, List.set_cons_zero, List.set_cons_succ]
      refine wpAnyT_take [29, 28, 27, 26, 25, 22, 21, 20, 19, 18] (i := 18) (v := ?v18) rfl (by kernel_rfl) (by kernel_rfl) (by kernel_rfl) (by kernel_rfl) (fun _ _ _ h => h) (Or.inl ⟨by rfl, ?y18⟩) hHeld ?r18
      case y18 => ((intro w hSw; (try dsimp only at hSw); go_simp) <;> with_reducible rfl)
      try simp only [Act.put, List.getElem_toArray, List.getElem_cons_zero, List.getElem_cons_succ, List.setIfInBounds_toArray, List.set_cons_zero, List.set_cons_succ]
      refine wpAnyT_take [29, 28, 27, 26, 25, 22, 21, 20, 19] (i := 19) (v := ?v19) rfl (by kernel_rfl) (by kernel_rfl) (by kernel_rfl) (by kernel_rfl) (fun _ _ _ h => h) (Or.inl ⟨by rfl, ?y19⟩) hHeld ?r19
      case y19 => ((intro w hSw; (try dsimp only at hSw); go_simp) <;> with_reducible rfl)
      try simp only [Act.put, List.getElem_toArray, List.getElem_cons_zero, List.getElem_cons_succ, List.setIfInBounds_toArray, List.set_cons_zero, List.set_cons_succ]
      refine wpAnyT_take [29, 28, 27, 26, 25, 22, 21, 20] (i := 20) (v := ?v20) rfl (by kernel_rfl) (by kernel_rfl) (by kernel_rfl) (by kernel_rfl) (fun _ _ _ h => h) (Or.inl ⟨by rfl, ?y20⟩) hHeld ?r20
      case y20 => ((intro w hSw; (try dsimp only at hSw); go_simp) <;> with_reducible rfl)
      try simp only [Act.put, List.getElem_toArray, List.getElem_cons_zero, List.getElem_cons_succ, List.setIfInBounds_toArray, List.set_cons_zero, List.set_cons_succ]
      refine wpAnyT_take [29, 28, 27, 26, 25, 22, 21] (i := 21) (v := ?v21) rfl (by kernel_rfl) (by kernel_rfl) (by kernel_rfl) (by kernel_rfl) (fun _ _ _ h => h) (Or.inl ⟨by rfl, ?y21⟩) hHeld ?r21
      case y21 => ((intro w hSw; (try dsimp only at hSw); go_simp) <;> with_reducible rfl)
      try simp only [Act.put, List.getElem_toArray, List.getElem_cons_zero, List.getElem_cons_succ, List.setIfInBounds_toArray, List.set_cons_zero, List.set_cons_succ]
      refine wpAnyT_take [29, 28, 27, 26, 25, 22] (i := 22) (v := ?v22) rfl (by kernel_rfl) (by kernel_rfl) (by kernel_rfl) (by kernel_rfl) (fun _ _ _ h => h) (Or.inl ⟨by rfl, ?y22⟩) hHeld ?r22
      case y22 => ((intro w hSw; (try dsimp only at hSw); go_simp) <;> with_reducible rfl)
      try simp only [Act.put, List.getElem_toArray, List.getElem_cons_zero, List.getElem_cons_succ, List.setIfInBounds_toArray, List.set_cons_zero, List.set_cons_succ]
      refine wpAnyT_take [29, 28, 27, 26, 25, 24, 23] (i := 23) (v := ?v23) rfl (by kernel_rfl) (by kernel_rfl) (by kernel_rfl) (by kernel_rfl) (fun _ _ _ h => h) (Or.inl ⟨by rfl, ?y23⟩) hHeld ?r23
      case y23 => ((intro w hSw; (try dsimp only at hSw); go_simp) <;> with_reducible rfl)
      try simp only [Act.put, List.getElem_toArray, List.getElem_cons_zero, List.getElem_cons_succ, List.setIfInBounds_toArray, List.set_cons_zero, List.set_cons_succ]
      refine wpAnyT_take [29, 28, 27, 26, 25, 24] (i := 24) (v := ?v24) rfl (by kernel_rfl) (by kernel_rfl) (by kernel_rfl) (by kernel_rfl) (fun _ _ _ h => h) (Or.inl ⟨by rfl, ?y24⟩) hHeld ?r24
      case y24 => ((intro w hSw; (try dsimp only at hSw); go_simp) <;> with_reducible rfl)
      try simp only [Act.put, List.getElem_toArray, List.getElem_cons_zero, List.getElem_cons_succ, List.setIfInBounds_toArray, List.set_cons_zero, List.set_cons_succ]
      refine wpAnyT_take [29, 28, 27, 26, 25] (i := 25) (v := ?v25) rfl (by kernel_rfl) (by kernel_rfl) (by kernel_rfl) (by kernel_rfl) (fun _ _ _ h => h) (Or.inl ⟨by rfl, ?y25⟩) hHeld ?r25
      case y25 => ((intro w hSw; (try dsimp only at hSw); go_simp) <;> with_reducible rfl)
      try simp only [Act.put, List.getElem_toArray, List.getElem_cons_zero, List.getElem_cons_succ, List.setIfInBounds_toArray, List.set_cons_zero, List.set_cons_succ]
      refine wpAnyT_take [29, 28, 27, 26] (i := 26) (v := ?v26) rfl (by kernel_rfl) (by kernel_rfl) (by kernel_rfl) (by kernel_rfl) (fun _ _ _ h => h) (Or.inl ⟨by rfl, ?y26⟩) hHeld ?r26
      case y26 => ((intro w hSw; (try dsimp only at hSw); go_simp) <;> with_reducible rfl)
      try simp only [Act.put, List.getElem_toArray, List.getElem_cons_zero, List.getElem_cons_succ, List.setIfInBounds_toArray, List.set_cons_zero, List.set_cons_succ]
      refine wpAnyT_take [29, 28, 27] (i := 27) (v := ?v27) rfl (by kernel_rfl) (by kernel_rfl) (by kernel_rfl) (by kernel_rfl) (fun _ _ _ h => h) (Or.inl ⟨by rfl, ?y27⟩) hHeld ?r27
      case y27 => ((intro w hSw; (try dsimp only at hSw); go_simp) <;> with_reducible rfl)
      try simp only [Act.put, List.getElem_toArray, List.getElem_cons_zero, List.getElem_cons_succ, List.setIfInBounds_toArray, List.set_cons_zero, List.set_cons_succ]
      refine wpAnyT_ready (rs := [13, 28]) (by kernel_rfl) (by simp) ?_
      refine AllReadyT.cons rfl (fun K hK => ?_) (AllReadyT.cons rfl (fun K hK => ?_) (AllReadyT.nil))
      ·
        go_simp
        have hs1 := HD.out.one lx
        obtain ⟨nA, hnA⟩ : ∃ n, n = wd.heap.size := ⟨_, rfl⟩
        rw [← hnA] at hs1 ⊢
        generalize wd.alloc (.cells #[.int .i64 lx] 3) = w1 at hs1 ⊢
        simp only [List.cons_append, List.nil_append] at hs1
        have HS1 := hid hs1
        clear hs1 hnA
        refine hK.out _ _ (HCF.out _ _ HS1.out (by simp) (HS1.out.boxc (l := fs) (by simp)).1 (HS1.out.boxc (l := ts) (by simp)).1) (fun hHeld => ?_)
        clear hK K
        try simp only [Act.put, List.getElem_toArray, List.getElem_cons_zero, List.getElem_cons_succ, List.setIfInBounds_toArray, List.set_cons_zero, List.set_cons_succ]
        refine wpAnyT_ready (rs := [14, 28]) (by kernel_rfl) (by simp) ?_
        refine AllReadyT.cons rfl (fun K hK => ?_) (AllReadyT.cons rfl (fun K hK => ?_) (AllReadyT.nil))
        ·
          refine step_append_ri rfl (.tmp 69) (.tmp 82) rfl vf (.slice (some ⟨nA, 0, none⟩) 1 1) fs [lx] rfl (HS1.out.boxc (b := fb) (v := vf) (l := fs) (by simp)).2.2 rfl (HS1.out.slc (by simp)) HLF.out ?_
          intro pa2 pc2 w2 r2 f2 n2
          rw [← HNF.out] at r2 n2 ⊢
          have HS2 := hid (Sto.pend (is1 := [It.sl (.slice (some ⟨bl, 0, none⟩) len0 cl) l]) (is2 := [It.box tb vt ts, It.sl (.slice (some ⟨nA, 0, none⟩) 1 1) [lx]]) HS1.out f2 r2 n2)
          simp only [List.cons_append, List.nil_append] at HS2
          clear r2 f2 n2
          refine hK.out _ _ (HCF.out _ _ HS2.out (by simp) (HS2.out.pdc (v' := (.slice pa2 nf1 pc2)) (l := fs ++ [lx]) (by simp)).1 (HS2.out.boxc (l := ts) (by simp)).1) (fun hHeld => ?_)
          clear hK K
          try simp only [Act.put, List.getElem_toArray, List.getElem_cons_zero, List.getElem_cons_succ, List.setIfInBounds_toArray, List.set_cons_zero, List.set_cons_succ]
          refine wpAnyT_ready (rs := [28]) (by kernel_rfl) (by simp) ?_
          refine AllReadyT.cons rfl (fun K hK => ?_) (AllReadyT.nil)
          go_simp
          have hs3 := HS2.out.one ly
          obtain ⟨nB, hnB⟩ : ∃ n, n = w2.heap.size := ⟨_, rfl⟩
          rw [← hnB] at hs3 ⊢
          generalize w2.alloc (.cells #[.int .i64 ly] 3) = w3 at hs3 ⊢
          simp only [List.cons_append, List.nil_append] at hs3
          have HS3 := hid hs3
          clear hs3 hnB
          refine hK.out _ _ (HCF.out _ _ HS3.out (by simp) (HS3.out.pdc (v' := (.slice pa2 nf1 pc2)) (l := fs ++ [lx]) (by simp)).1 (HS3.out.boxc (l := ts) (by simp)).1) (fun hHeld => ?_)
          clear hK K
          try simp only [Act.put, List.getElem_toArray, List.getElem_cons_zero, List.getElem_cons_succ, List.setIfInBounds_toArray, List.set_cons_zero, List.set_cons_succ]
          refine wpAnyT_ready (rs := [29]) (by kernel_rfl) (by simp) ?_
          refine AllReadyT.cons rfl (fun K hK => ?_) (AllReadyT.nil)
          refine step_append_ri rfl (.tmp 84) (.tmp 97) rfl vt (.slice (some ⟨nB, 0, none⟩) 1 1) ts [ly] rfl (HS3.out.boxc (b := tb) (v := vt) (l := ts) (by simp)).2.2 rfl (HS3.out.slc (by simp)) HLT.out ?_
          intro pa4 pc4 w4 r4 f4 n4
          rw [← HNT.out] at r4 n4 ⊢
          have HS4 := hid (Sto.pend (is1 := [It.sl (.slice (some ⟨bl, 0, none⟩) len0 cl) l, It.pd fb vf (.slice pa2 nf1 pc2) (fs ++ [lx])]) (is2 := [It.sl (.slice (some ⟨nA, 0, none⟩) 1 1) [lx], It.sl (.slice (some ⟨nB, 0, none⟩) 1 1) [ly]]) HS3.out f4 r4 n4)
          simp only [List.cons_append, List.nil_append] at HS4
          clear r4 f4 n4
          refine hK.out _ _ (HCF.out _ _ HS4.out (by simp) (HS4.out.pdc (v' := (.slice pa2 nf1 pc2)) (l := fs ++ [lx]) (by simp)).1 (HS4.out.pdc (v' := (.slice pa4 nt1 pc4)) (l := ts ++ [ly]) (by simp)).1) (fun hHeld => ?_)
          clear hK K
          try simp only [Act.put, List.getElem_toArray, List.getElem_cons_zero, List.getElem_cons_succ, List.setIfInBounds_toArray, List.set_cons_zero, List.set_cons_succ]
          refine wpAnyT_ready (rs := [30]) (by kernel_rfl) (by simp) ?_
          refine AllReadyT.last rfl (by kernel_rfl) (fun K hK => ?_) AllReadyT.nil
          have q5 := HS4.out.pdc (v := vf) (v' := (.slice pa2 nf1 pc2)) (l := fs ++ [lx]) (b := fb) (by simp)
          have q5a := q5.1
          have q5b := q5.2.1
          clear q5
          go_simp
          clear q5a q5b
          have HS5 := hid (Sto.put (is1 := [It.sl (.slice (some ⟨bl, 0, none⟩) len0 cl) l]) (is2 := [It.pd tb vt (.slice pa4 nt1 pc4) (ts ++ [ly]), It.sl (.slice (some ⟨nA, 0, none⟩) 1 1) [lx], It.sl (.slice (some ⟨nB, 0, none⟩) 1 1) [ly]]) HS4.out)
          simp only [List.cons_append, List.nil_append] at HS5
          generalize w4.setCell ⟨fb, 0, none⟩ (.slice pa2 nf1 pc2) = w5 at HS5 ⊢
          refine hK.out _ _ ?_
          clear hK K
          try simp only [Act.put, List.getElem_toArray, List.getElem_cons_zero, List.getElem_cons_succ, List.setIfInBounds_toArray, List.set_cons_zero, List.set_cons_succ]
          refine wpAnyT_ready (rs := [31]) (by kernel_rfl) (by simp) ?_
          refine AllReadyT.last rfl (by kernel_rfl) (fun K hK => ?_) AllReadyT.nil
          have q6 := HS5.out.pdc (v := vt) (v' := (.slice pa4 nt1 pc4)) (l := ts ++ [ly]) (b := tb) (by simp)
          have q6a := q6.1
          have q6b := q6.2.1
          clear q6
          go_simp
          clear q6a q6b
          have HS6 := hid (Sto.put (is1 := [It.sl (.slice (some ⟨bl, 0, none⟩) len0 cl) l, It.box fb (.slice pa2 nf1 pc2) (fs ++ [lx])]) (is2 := [It.sl (.slice (some ⟨nA, 0, none⟩) 1 1) [lx], It.sl (.slice (some ⟨nB, 0, none⟩) 1 1) [ly]]) HS5.out)
          simp only [List.cons_append, List.nil_append] at HS6
          generalize w5.setCell ⟨tb, 0, none⟩ (.slice pa4 nt1 pc4) = w6 at HS6 ⊢
          refine hK.out _ _ ?_
          clear hK K
          try simp only [Act.put, List.getElem_toArray, List.getElem_cons_zero, List.getElem_cons_succ, List.setIfInBounds_toArray, List.set_cons_zero, List.set_cons_succ]
          refine wpAnyT_done (by kernel_rfl) ?_ _
          have HN : Hid (CoA W w6 hb rb L l (fs ++ [lx]) (ts ++ [ly]) (.slice (some ⟨bl, 0, none⟩) len0 cl) (.slice pa2 nf1 pc2) (.slice pa4 nt1 pc4) fb tb (j + 1)) := hid ⟨HS6.out.only (List.sublist_append_left [It.sl (.slice (some ⟨bl, 0, none⟩) len0 cl) l, It.box fb (.slice pa2 nf1 pc2) (fs ++ [lx]), It.box tb (.slice pa4 nt1 pc4) (ts ++ [ly])] [It.sl (.slice (some ⟨nA, 0, none⟩) 1 1) [lx], It.sl (.slice (some ⟨nB, 0, none⟩) 1 1) [ly]]), by have := HR.out.le; simp; omega, by have := HR.out.eq; simp; omega⟩
          clear HS1 HS2 HS3 HS4 HS5 HS6 hHeld
          go_wp2_with fail
          go_roundw
          case rel => exact ⟨j + 1, fs ++ [lx], ts ++ [ly], (.slice pa2 nf1 pc2), (.slice pa4 nt1 pc4), by go_num, by omega, HN⟩
          case measure => simp [intOf]; omega
        ·
          go_simp
          have hs2 := HS1.out.one ly
          obtain ⟨nB, hnB⟩ : ∃ n, n = w1.heap.size := ⟨_, rfl⟩
          rw [← hnB] at hs2 ⊢
          generalize w1.alloc (.cells #[.int .i64 ly] 3) = w2 at hs2 ⊢
          simp only [List.cons_append, List.nil_append] at hs2
          have HS2 := hid hs2
          clear hs2 hnB
          refine hK.out _ _ (HCF.out _ _ HS2.out (by simp) (HS2.out.boxc (l := fs) (by simp)).1 (HS2.out.boxc (l := ts) (by simp)).1) (fun hHeld => ?_)
          clear hK K
          try simp only [Act.put, List.getElem_toArray, List.getElem_cons_zero, List.getElem_cons_succ, List.setIfInBounds_toArray, List.set_cons_zero, List.set_cons_succ]
          refine wpAnyT_ready (rs := [14]) (by kernel_rfl) (by simp) ?_
          refine AllReadyT.cons rfl (fun K hK => ?_) (AllReadyT.nil)
          refine step_append_ri rfl (.tmp 69) (.tmp 82) rfl vf (.slice (some ⟨nA, 0, none⟩) 1 1) fs [lx] rfl (HS2.out.boxc (b := fb) (v := vf) (l := fs) (by simp)).2.2 rfl (HS2.out.slc (by simp)) HLF.out ?_
          intro pa3 pc3 w3 r3 f3 n3
          rw [← HNF.out] at r3 n3 ⊢
          have HS3 := hid (Sto.pend (is1 := [It.sl (.slice (some ⟨bl, 0, none⟩) len0 cl) l]) (is2 := [It.box tb vt ts, It.sl (.slice (some ⟨nA, 0, none⟩) 1 1) [lx], It.sl (.slice (some ⟨nB, 0, none⟩) 1 1) [ly]]) HS2.out f3 r3 n3)
          simp only [List.cons_append, List.nil_append] at HS3
          clear r3 f3 n3
          refine hK.out _ _ (HCF.out _ _ HS3.out (by simp) (HS3.out.pdc (v' := (.slice pa3 nf1 pc3)) (l := fs ++ [lx]) (by simp)).1 (HS3.out.boxc (l := ts) (by simp)).1) (fun hHeld => ?_)
          clear hK K
          try simp only [Act.put, List.getElem_toArray, List.getElem_cons_zero, List.getElem_cons_succ, List.setIfInBounds_toArray, List.set_cons_zero, List.set_cons_succ]
          refine wpAnyT_ready (rs := [29]) (by kernel_rfl) (by simp) ?_
          refine AllReadyT.cons rfl (fun K hK => ?_) (AllReadyT.nil)
          refine step_append_ri rfl (.tmp 84) (.tmp 97) rfl vt (.slice (some ⟨nB, 0, none⟩) 1 1) ts [ly] rfl (HS3.out.boxc (b := tb) (v := vt) (l := ts) (by simp)).2.2 rfl (HS3.out.slc (by simp)) HLT.out ?_
          intro pa4 pc4 w4 r4 f4 n4
          rw [← HNT.out] at r4 n4 ⊢
          have HS4 := hid (Sto.pend (is1 := [It.sl (.slice (some ⟨bl, 0, none⟩) len0 cl) l, It.pd fb vf (.slice pa3 nf1 pc3) (fs ++ [lx])]) (is2 := [It.sl (.slice (some ⟨nA, 0, none⟩) 1 1) [lx], It.sl (.slice (some ⟨nB, 0, none⟩) 1 1) [ly]]) HS3.out f4 r4 n4)
          simp only [List.cons_append, List.nil_append] at HS4
          clear r4 f4 n4
          refine hK.out _ _ (HCF.out _ _ HS4.out (by simp) (HS4.out.pdc (v' := (.slice pa3 nf1 pc3)) (l := fs ++ [lx]) (by simp)).1 (HS4.out.pdc (v' := (.slice pa4 nt1 pc4)) (l := ts ++ [ly]) (by simp)).1) (fun hHeld => ?_)
          clear hK K
          try simp only [Act.put, List.getElem_toArray, List.getElem_cons_zero, List.getElem_cons_succ, List.setIfInBounds_toArray, List.set_cons_zero, List.set_cons_succ]
          refine wpAnyT_ready (rs := [30]) (by kernel_rfl) (by simp) ?_
          refine AllReadyT.last rfl (by kernel_rfl) (fun K hK => ?_) AllReadyT.nil
          have q5 := HS4.out.pdc (v := vf) (v' := (.slice pa3 nf1 pc3)) (l := fs ++ [lx]) (b := fb) (by simp)
          have q5a := q5.1
          have q5b := q5.2.1
          clear q5
          go_simp
          clear q5a q5b
          have HS5 := hid (Sto.put (is1 := [It.sl (.slice (some ⟨bl, 0, none⟩) len0 cl) l]) (is2 := [It.pd tb vt (.slice pa4 nt1 pc4) (ts ++ [ly]), It.sl (.slice (some ⟨nA, 0, none⟩) 1 1) [lx], It.sl (.slice (some ⟨nB, 0, none⟩) 1 1) [ly]]) HS4.out)
          simp only [List.cons_append, List.nil_append] at HS5
          generalize w4.setCell ⟨fb, 0, none⟩ (.slice pa3 nf1 pc3) = w5 at HS5 ⊢
          refine hK.out _ _ ?_
          clear hK K
          try simp only [Act.put, List.getElem_toArray, List.getElem_cons_zero, List.getElem_cons_succ, List.setIfInBounds_toArray, List.set_cons_zero, List.set_cons_succ]
          refine wpAnyT_ready (rs := [31]) (by kernel_rfl) (by simp) ?_
          refine AllReadyT.last rfl (by kernel_rfl) (fun K hK => ?_) AllReadyT.nil
          have q6 := HS5.out.pdc (v := vt) (v' := (.slice pa4 nt1 pc4)) (l := ts ++ [ly]) (b := tb) (by simp)
          have q6a := q6.1
          have q6b := q6.2.1
          clear q6
          go_simp
          clear q6a q6b
          have HS6 := hid (Sto.put (is1 := [It.sl (.slice (some ⟨bl, 0, none⟩) len0 cl) l, It.box fb (.slice pa3 nf1 pc3) (fs ++ [lx])]) (is2 := [It.sl (.slice (some ⟨nA, 0, none⟩) 1 1) [lx], It.sl (.slice (some ⟨nB, 0, none⟩) 1 1) [ly]]) HS5.out)
          simp only [List.cons_append, List.nil_append] at HS6
          generalize w5.setCell ⟨tb, 0, none⟩ (.slice pa4 nt1 pc4) = w6 at HS6 ⊢
          refine hK.out _ _ ?_
          clear hK K
          try simp only [Act.put, List.getElem_toArray, List.getElem_cons_zero, List.getElem_cons_succ, List.setIfInBounds_toArray, List.set_cons_zero, List.set_cons_succ]
          refine wpAnyT_done (by kernel_rfl) ?_ _
          have HN : Hid (CoA W w6 hb rb L l (fs ++ [lx]) (ts ++ [ly]) (.slice (some ⟨bl, 0, none⟩) len0 cl) (.slice pa3 nf1 pc3) (.slice pa4 nt1 pc4) fb tb (j + 1)) := hid ⟨HS6.out.only (List.sublist_append_left [It.sl (.slice (some ⟨bl, 0, none⟩) len0 cl) l, It.box fb (.slice pa3 nf1 pc3) (fs ++ [lx]), It.box tb (.slice pa4 nt1 pc4) (ts ++ [ly])] [It.sl (.slice (some ⟨nA, 0, none⟩) 1 1) [lx], It.sl (.slice (some ⟨nB, 0, none⟩) 1 1) [ly]]), by have := HR.out.le; simp; omega, by have := HR.out.eq; simp; omega⟩
          clear HS1 HS2 HS3 HS4 HS5 HS6 hHeld
          go_wp2_with fail
          go_roundw
          case rel => exact ⟨j + 1, fs ++ [lx], ts ++ [ly], (.slice pa3 nf1 pc3), (.slice pa4 nt1 pc4), by go_num, by omega, HN⟩
          case measure => simp [intOf]; omega
      ·
        go_simp
        have hs1 := HD.out.one ly
        obtain ⟨nB, hnB⟩ : ∃ n, n = wd.heap.size := ⟨_, rfl⟩
        rw [← hnB] at hs1 ⊢
        generalize wd.alloc (.cells #[.int .i64 ly] 3) = w1 at hs1 ⊢
        simp only [List.cons_append, List.nil_append] at hs1
        have HS1 := hid hs1
        clear hs1 hnB
        refine hK.out _ _ (HCF.out _ _ HS1.out (by simp) (HS1.out.boxc (l := fs) (by simp)).1 (HS1.out.boxc (l := ts) (by simp)).1) (fun hHeld => ?_)
        clear hK K
        try simp only [Act.put, List.getElem_toArray, List.getElem_cons_zero, List.getElem_cons_succ, List.setIfInBounds_toArray, List.set_cons_zero, List.set_cons_succ]
        refine wpAnyT_ready (rs := [13]) (by kernel_rfl) (by simp) ?_
        refine AllReadyT.cons rfl (fun K hK => ?_) (AllReadyT.nil)
        go_simp
        have hs2 := HS1.out.one lx
        obtain ⟨nA, hnA⟩ : ∃ n, n = w1.heap.size := ⟨_, rfl⟩
        rw [← hnA] at hs2 ⊢
        generalize w1.alloc (.cells #[.int .i64 lx] 3) = w2 at hs2 ⊢
        simp only [List.cons_append, List.nil_append] at hs2
        have HS2 := hid hs2
        clear hs2 hnA
        refine hK.out _ _ (HCF.out _ _ HS2.out (by simp) (HS2.out.boxc (l := fs) (by simp)).1 (HS2.out.boxc (l := ts) (by simp)).1) (fun hHeld => ?_)
        clear hK K
        try simp only [Act.put, List.getElem_toArray, List.getElem_cons_zero, List.getElem_cons_succ, List.setIfInBounds_toArray, List.set_cons_zero, List.set_cons_succ]
        refine wpAnyT_ready (rs := [14]) (by kernel_rfl) (by simp) ?_
        refine AllReadyT.cons rfl (fun K hK => ?_) (AllReadyT.nil)
        refine step_append_ri rfl (.tmp 69) (.tmp 82) rfl vf (.slice (some ⟨nA, 0, none⟩) 1 1) fs [lx] rfl (HS2.out.boxc (b := fb) (v := vf) (l := fs) (by simp)).2.2 rfl (HS2.out.slc (by simp)) HLF.out ?_
        intro pa3 pc3 w3 r3 f3 n3
        rw [← HNF.out] at r3 n3 ⊢
        have HS3 := hid (Sto.pend (is1 := [It.sl (.slice (some ⟨bl, 0, none⟩) len0 cl) l]) (is2 := [It.box tb vt ts, It.sl (.slice (some ⟨nB, 0, none⟩) 1 1) [ly], It.sl (.slice (some ⟨nA, 0, none⟩) 1 1) [lx]]) HS2.out f3 r3 n3)
        simp only [List.cons_append, List.nil_append] at HS3
        clear r3 f3 n3
        refine hK.out _ _ (HCF.out _ _ HS3.out (by simp) (HS3.out.pdc (v' := (.slice pa3 nf1 pc3)) (l := fs ++ [lx]) (by simp)).1 (HS3.out.boxc (l := ts) (by simp)).1) (fun hHeld => ?_)
        clear hK K
        try simp only [Act.put, List.getElem_toArray, List.getElem_cons_zero, List.getElem_cons_succ, List.setIfInBounds_toArray, List.set_cons_zero, List.set_cons_succ]
        refine wpAnyT_ready (rs := [29]) (by kernel_rfl) (by simp) ?_
        refine AllReadyT.cons rfl (fun K hK => ?_) (AllReadyT.nil)
        refine step_append_ri rfl (.tmp 84) (.tmp 97) rfl vt (.slice (some ⟨nB, 0, none⟩) 1 1) ts [ly] rfl (HS3.out.boxc (b := tb) (v := vt) (l := ts) (by simp)).2.2 rfl (HS3.out.slc (by simp)) HLT.out ?_
        intro pa4 pc4 w4 r4 f4 n4
        rw [← HNT.out] at r4 n4 ⊢
        have HS4 := hid (Sto.pend (is1 := [It.sl (.slice (some ⟨bl, 0, none⟩) len0 cl) l, It.pd fb vf (.slice pa3 nf1 pc3) (fs ++ [lx])]) (is2 := [It.sl (.slice (some ⟨nB, 0, none⟩) 1 1) [ly], It.sl (.slice (some ⟨nA, 0, none⟩) 1 1) [lx]]) HS3.out f4 r4 n4)
        simp only [List.cons_append, List.nil_append] at HS4
        clear r4 f4 n4
        refine hK.out _ _ (HCF.out _ _ HS4.out (by simp) (HS4.out.pdc (v' := (.slice pa3 nf1 pc3)) (l := fs ++ [lx]) (by simp)).1 (HS4.out.pdc (v' := (.slice pa4 nt1 pc4)) (l := ts ++ [ly]) (by simp)).1) (fun hHeld => ?_)
        clear hK K
        try simp only [Act.put, List.getElem_toArray, List.getElem_cons_zero, List.getElem_cons_succ, List.setIfInBounds_toArray, List.set_cons_zero, List.set_cons_succ]
        refine wpAnyT_ready (rs := [30]) (by kernel_rfl) (by simp) ?_
        refine AllReadyT.last rfl (by kernel_rfl) (fun K hK => ?_) AllReadyT.nil
        have q5 := HS4.out.pdc (v := vf) (v' := (.slice pa3 nf1 pc3)) (l := fs ++ [lx]) (b := fb) (by simp)
        have q5a := q5.1
        have q5b := q5.2.1
        clear q5
        go_simp
        clear q5a q5b
        have HS5 := hid (Sto.put (is1 := [It.sl (.slice (some ⟨bl, 0, none⟩) len0 cl) l]) (is2 := [It.pd tb vt (.slice pa4 nt1 pc4) (ts ++ [ly]), It.sl (.slice (some ⟨nB, 0, none⟩) 1 1) [ly], It.sl (.slice (some ⟨nA, 0, none⟩) 1 1) [lx]]) HS4.out)
        simp only [List.cons_append, List.nil_append] at HS5
        generalize w4.setCell ⟨fb, 0, none⟩ (.slice pa3 nf1 pc3) = w5 at HS5 ⊢
        refine hK.out _ _ ?_
        clear hK K
        try simp only [Act.put, List.getElem_toArray, List.getElem_cons_zero, List.getElem_cons_succ, List.setIfInBounds_toArray, List.set_cons_zero, List.set_cons_succ]
        refine wpAnyT_ready (rs := [31]) (by kernel_rfl) (by simp) ?_
        refine AllReadyT.last rfl (by kernel_rfl) (fun K hK => ?_) AllReadyT.nil
        have q6 := HS5.out.pdc (v := vt) (v' := (.slice pa4 nt1 pc4)) (l := ts ++ [ly]) (b := tb) (by simp)
        have q6a := q6.1
        have q6b := q6.2.1
        clear q6
        go_simp
        clear q6a q6b
        have HS6 := hid (Sto.put (is1 := [It.sl (.slice (some ⟨bl, 0, none⟩) len0 cl) l, It.box fb (.slice pa3 nf1 pc3) (fs ++ [lx])]) (is2 := [It.sl (.slice (some ⟨nB, 0, none⟩) 1 1) [ly], It.sl (.slice (some ⟨nA, 0, none⟩) 1 1) [lx]]) HS5.out)
        simp only [List.cons_append, List.nil_append] at HS6
        generalize w5.setCell ⟨tb, 0, none⟩ (.slice pa4 nt1 pc4) = w6 at HS6 ⊢
        refine hK.out _ _ ?_
        clear hK K
        try simp only [Act.put, List.getElem_toArray, List.getElem_cons_zero, List.getElem_cons_succ, List.setIfInBounds_toArray, List.set_cons_zero, List.set_cons_succ]
        refine wpAnyT_done (by kernel_rfl) ?_ _
        have HN : Hid (CoA W w6 hb rb L l (fs ++ [lx]) (ts ++ [ly]) (.slice (some ⟨bl, 0, none⟩) len0 cl) (.slice pa3 nf1 pc3) (.slice pa4 nt1 pc4) fb tb (j + 1)) := hid ⟨HS6.out.only (List.sublist_append_left [It.sl (.slice (some ⟨bl, 0, none⟩) len0 cl) l, It.box fb (.slice pa3 nf1 pc3) (fs ++ [lx]), It.box tb (.slice pa4 nt1 pc4) (ts ++ [ly])] [It.sl (.slice (some ⟨nB, 0, none⟩) 1 1) [ly], It.sl (.slice (some ⟨nA, 0, none⟩) 1 1) [lx]]), by have := HR.out.le; simp; omega, by have := HR.out.eq; simp; omega⟩
        clear HS1 HS2 HS3 HS4 HS5 HS6 hHeld
        go_wp2_with fail
        go_roundw
        case rel => exact ⟨j + 1, fs ++ [lx], ts ++ [ly], (.slice pa3 nf1 pc3), (.slice pa4 nt1 pc4), by go_num, by omega, HN⟩
        case measure => simp [intOf]; omega
    | false =>
      clear HCB
      have HFL := hid HR.out.eq
      have hfl : fs.length ≤ 60 := by have := HR.out.le; omega
      have HFB := hid hfl
      have HS1 := hid (HR.out.st.one bad)
      simp only [List.cons_append, List.nil_append] at HS1
      clear hfl HR
      go_wp2_with fail
      generalize wc.alloc (.cells #[.int .i64 bad] 3) = wD at HS1 ⊢
      go_loopw [17, 18] (fun v i wr => ∃ (k : Nat) (at' : List Int), i = .int .i64 k ∧ k ≤ len3 ∧ at'.length ≤ k + 1 ∧ Hid (Sto W wr (.pointer (some ⟨hb, 0, none⟩)) (.pointer (some ⟨rb, 0, none⟩)) 600 L L [.sl (.slice al len0 cl) l, .box fb vf fs, .box tb vt ts, .sl v at'])) (fun _ i _ => len3 - (intOf i).toNat)
      case atStart => exact ⟨0, [bad], rfl, by omega, by simp, HS1⟩
      case round =>
        obtain ⟨k, at', rfl, hk, hal, hr⟩ := hrel
        have HR := hid hr.out
        have HAL := hid hal
        clear hr hal HS1
        have hb3 := B3.out
        obtain ⟨cb, hcbe⟩ : ∃ cb : Bool, cb = decide (k < len3 ∧ 0 < len0) := ⟨_, rfl⟩
        have HCB := hid hcbe
        clear hcbe
        go_upto_region 15 with (fail)
        go_cut [109] from 101 to 109 (fun c wx => c = .bool cb ∧ wx = wr)
        case first =>
          by_cases hA : k < len3
          · have hA2 : (k : Int) < len3 := by omega
            by_cases hB : 0 < len0
            · have hB2 : (0 : Int) < len0 := by omega
              have hB3 : 0 < len0 := hB
              have HA3 := hid (show decide (k < len3 ∧ 0 < len0) = true from decide_eq_true ⟨hA, hB⟩)
              go_wp2_with fail
              go_meet
              case rel => exact ⟨by rw [HCB.out, HA3.out], rfl⟩
            · have hB2 : decide (0 < len0) = false := by simpa using hB
              have HA3 := hid (show decide (k < len3 ∧ 0 < len0) = false from decide_eq_false (fun h => hB h.2))
              clear hB
              go_wp2_with fail
              go_meet
              case rel => exact ⟨by rw [HCB.out, HA3.out], rfl⟩
          · have hA2 : decide (k < len3) = false := by simpa using hA
            have HA3 := hid (show decide (k < len3 ∧ 0 < len0) = false from decide_eq_false (fun h => hA h.1))
            clear hA
            go_wp2_with fail
            go_meet
            case rel => exact ⟨by rw [HCB.out, HA3.out], rfl⟩
        case rest =>
        obtain ⟨rfl, rfl⟩ := hcut
        obtain ⟨av, cv, hve, _, _⟩ := (HR.out.slc (v := u17) (l := at') (by simp)).form
        obtain ⟨n, hn⟩ : ∃ n, n = at'.length := ⟨_, rfl⟩
        have HN := hid hn
        rw [← hn] at hve
        subst hve
        clear hn
        cases cb with
        | true =>
          obtain ⟨hlt, h0⟩ := of_decide_eq_true HCB.out.symm
          have hlt2 : (k : Int) < len3 := by omega
          have h02 : (0 : Int) < len0 := by omega
          have h03 : ¬ len0 = 0 := by omega
          have hjb : (k : Int) ≤ 12 := by omega
          have hlb : (len0 : Int) ≤ 30 := by omega
          obtain ⟨bg, og, rfl, hcell, hwf⟩ := (H3.out.keep HR.out.fr).cell k hlt
          obtain ⟨z0', z255⟩ := u8_bounds hwf
          generalize z3.getD k 0 = z at hcell z0' z255
          obtain ⟨x, hx⟩ : ∃ x : Nat, z % (len0 : Int) = (x : Int) := ⟨(z % (len0 : Int)).toNat, by rw [Int.toNat_of_nonneg (Int.emod_nonneg _ (by omega))]⟩
          have hxk : x < len0 := by have := Int.emod_lt_of_pos z (show (0 : Int) < len0 by omega); omega
          have hx' : Int.tmod z (len0 : Int) = (x : Int) := by rw [Int.tmod_eq_emod_of_nonneg z0']; exact hx
          have hxb : (x : Int) < len0 := by omega
          have hxl : x < l.length := by rw [HLL.out]; exact hxk
          obtain ⟨bl, c', e, hcl⟩ := (HR.out.slc (v := .slice al len0 cl) (l := l) (by simp)).cell x hxl
          injection e with e1 e2 e3
          clear e2 e3
          subst e1
          generalize l.getD x 0 = y at hcl
          have hal := HAL.out
          have S := hid (fun t => show RI (wc.alloc t) (.slice av n cv) at' from RV.keep0 (HR.out.slc (v := .slice av n cv) (l := at') (by simp)) ((Fr.refl _ _).alloc _))
          clear hwf hx hxk hxl
          go_wp2_with (at_builtin; refine wp_append_ri rfl (.tmp 112) (.tmp 124) rfl (.slice av n cv) (.slice (some ⟨wc.heap.size, 0, none⟩) 1 1) at' [y] rfl (S.out _) rfl (RI.made (w := wc) [y] (by simp)) (by simp; omega) ?_; intro a5 c5 w5 r5 f5 n5; rw [← HN.out] at r5 n5 ⊢; have R5 := hid r5; have F5 := hid f5; have N5 := hid n5; clear r5 f5 n5)
          have HN5 : Hid (Sto W w5 (.pointer (some ⟨hb, 0, none⟩)) (.pointer (some ⟨rb, 0, none⟩)) 600 L L [.sl (.slice (some ⟨bl, 0, none⟩) len0 cl) l, .box fb vf fs, .box tb vt ts, .sl (.slice a5 (n + [y].length) c5) (at' ++ [y])]) := hid (by
            refine Sto.turn (is1 := [.sl (.slice (some ⟨bl, 0, none⟩) len0 cl) l, .box fb vf fs, .box tb vt ts]) (is2 := []) (i := .sl (.slice av n cv) at') HR.out (((Fr.refl _ _).alloc _).tr F5.out) R5.out (fun b hb => ?_)
            rcases N5.out b hb with h | h
            · exact .inl h
            · rw [World.size_alloc] at h; exact .inr (by omega))
          go_roundw
          case rel => exact ⟨k + 1, at' ++ [y], by go_num, by omega, by simp; omega, HN5⟩
          case measure => simp [intOf]; omega
        | false =>
          clear HCB
          have hal := HAL.out
          have hal2 : at'.length ≤ 13 := by omega
          have HAL2 := hid hal2
          have HB := hid HR.out.box
          simp only [List.cons_append, List.nil_append] at HB
          obtain ⟨ab, hab⟩ : ∃ ab, ab = wc.heap.size := ⟨_, rfl⟩
          rw [← hab] at HB
          clear hal hal2
          have q1 := (HB.out.boxc (b := fb) (v := vf) (l := fs) (by simp)).1
          have q2 := (HB.out.boxc (b := tb) (v := vt) (l := ts) (by simp)).1
          have HRC : Hid (∀ v0, It.sl v0 at' ∈ [It.sl (.slice al len0 cl) l, .box fb vf fs, .box tb vt ts, .sl (.slice av n cv) at', .box ab (.slice none 0 0) []] → Calls Try.prog 39 #[.pointer (some ⟨rb, 0, none⟩), v0, vf, vt] (wc.alloc (.cells #[.slice none 0 0] 31)) (ReachedPost (wc.alloc (.cells #[.slice none 0 0] 31)) L at' fs ts)) := hid (fun v0 hv => by
            obtain ⟨FQ, hba⟩ := HB.out.ba
            exact rreached_any hba.ref (HB.out.slc hv) (HB.out.boxc (b := fb) (v := vf) (l := fs) (by simp)).2.2 (HB.out.boxc (b := tb) (v := vt) (l := ts) (by simp)).2.2 HFL.out (by have := HAL2.out; omega) (by have := HFB.out; omega))
          have HFLN := hid (show fs.length ≤ 60 from HFB.out)
          go_upto_region 20 with (fail)
          go_cut [21] from 127 to 131 (fun c wx => Hid (SeC W hb rb fb tb wc.heap.size vf vt (.slice av n cv) L at' fs ts c wx))
          case first =>
            go_wp2_with fail
            refine (HRC.out _ (by simp)).mono ?_
            rintro e w2 ⟨v2, s2, rfl, hv2, hs2, hn2, f2, hr2⟩
            have HP : Hid (SeC W hb rb fb tb wc.heap.size vf vt (.slice av n cv) L at' fs ts v2 w2) := hid (by
              obtain ⟨sv, cs, e, _, _⟩ := hv2.form
              subst e
              rw [← hs2] at hv2 hn2
              have h1 := HB.out.more (i' := .bo (.slice sv s2.length cs) s2) f2 hv2 hn2
              simp only [List.cons_append, List.nil_append] at h1
              rw [hs2] at h1
              exact ⟨sv, cs, s2, rfl, ⟨hs2, hr2⟩, by rw [← hab]; exact h1.order⟩)
            clear hv2 hs2 hn2 f2 hr2 q1 q2
            go_wp2_with fail
            go_meet
            case rel => exact HP
          case rest =>
            obtain ⟨sv, cs, s2, rfl, hse, hst⟩ := hcut.out
            apply_assumption
            exact coll_rest hst rfl hse HFL.out HFLN.out HAL2.out

end Go.Proofs.Ytgakkkifohkikaa
