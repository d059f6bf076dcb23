/-
  MonitorPlays: the document's Notify.
-/
import Derived.Test.YthdmgjkipiaccaaRdN0
namespace Go.Proofs.Ythdmgjkipiaccaa
open Go.RowKit

/-- who was moved are d, r still wait -/
structure NotS (w wr : World) (tb b cap : Nat) (G : List RG) (i : Nat) (x : RL) (vl : Value) (d r : List (Int × Int)) (g : RG) : Prop where
  hw : x.wait = d ++ r
  hx : g.x = { x with entry := x.entry ++ d, wait := r }
  doc : DocT wr tb (.slice (some ⟨b, 0, none⟩) G.length cap) (G.set i g)
  l : Sli wr vl (d.map (·.1))
  fr : Fr [b] w wr
  new : ∀ z ∈ fpv vl, w.heap.size ≤ z
theorem NotS.drew {w wr : World} {tb b cap : Nat} {G : List RG} {i : Nat} {x : RL} {vl : Value} {d r : List (Int × Int)} {g : RG} (h : NotS w wr tb b cap G i x vl d r g) : NotS w wr.drew tb b cap G i x vl d r g :=
  ⟨h.hw, h.hx, h.doc.keep0 (Fr.refl _ _).drew, h.l.keep0 (Fr.refl _ _).drew, h.fr.drew, h.new⟩

theorem sli_noW {w : World} {v : Value} {xs : List Int} (h : Sli w v xs) : NoW w (fpv v) := by
  intro b hb cur e
  rw [mem_fpv] at hb
  rcases h.parts with ⟨rfl, _⟩ | ⟨b', cap, cur', rfl, hh, _⟩
  · cases hb
  · cases hb
    rw [hh] at e
    simp only [Option.some.injEq, Obj.cells.injEq] at e
    exact absurd e.2.1 (by decide)
/-- one more was taken into the list -/
theorem NotS.push {w wr w' : World} {tb b cap : Nat} {G : List RG} {i : Nat} {x : RL} {vl vl' : Value} {d r : List (Int × Int)} {g : RG} (h : NotS w wr tb b cap G i x vl d r g) (hlt : ∀ z ∈ [tb, b], z < w.heap.size) (f : Fr (fpv vl) wr w') (hl : ∀ z ∈ fpv vl', z ∈ fpv vl ∨ wr.heap.size ≤ z) :
    DocT w' tb (.slice (some ⟨b, 0, none⟩) G.length cap) (G.set i g) ∧ Fr [b] w w' ∧ ∀ z ∈ fpv vl', w.heap.size ≤ z := by
  refine ⟨h.doc.keep f (fun k => ?_) (fun z hz k => ?_) (sli_noW h.l), ?_, fun z hz => ?_⟩
  · have := h.new tb k; have := hlt tb (by simp); omega
  · have e : z = b := by simpa [fpv, Value.ownBlock] using hz
    subst e
    have := h.new z k; have := hlt z (by simp); omega
  · exact h.fr.trans f (fun z hz => .inr (h.new z hz))
  · rcases hl z hz with k | k
    · exact h.new z k
    · have := h.fr.size; omega

set_option maxRecDepth 20000 in
set_option maxHeartbeats 2000000 in
theorem dnotify_any {w : World} {tb : Nat} {F : List Nat} {R : List RL} (h : Doc w tb F R) (hk : RBd R 1000) (a t : Int) (all : Bool) : Calls Try.prog 21 #[.pointer (some ⟨tb, 0, none⟩), .int .i64 a, .int .i64 t, .bool all] w fun e w' => (∃ vl, e = .returned (.tuple #[vl, .int .i64 (rNotify R a t all).1.2]) ∧ Sli w' vl (rNotify R a t all).1.1) ∧ DMv w w' tb F (rNotify R a t all).2 := by
  obtain ⟨v, G, rfl, rfl, h⟩ := h
  have HC := hid (downed_any h hk.glen a t)
  have HD := hid h
  have HK := hid hk
  cases ho : rOwned (G.map RG.x) a t with
  | none =>
    rw [ho] at HC
    rw [rNotify_none ho]
    clear h hk ho
    go_enter Try.func21, Try.ntmps21
    go_wp2_with fail
    refine HC.out.mono ?_
    rintro e w2 ⟨rfl, f2⟩
    have F2 := hid f2
    clear f2
    go_wp2_with fail
    go_ret2
    exact ⟨⟨_, rfl, Sli.nil _⟩, DMv.same HD.out (by first | exact F2.out | exact F2.out.tr0 (Fr.refl _ _).drew)⟩
  | some i =>
    have hi := rOwned_lt ho
    rw [ho] at HC
    obtain ⟨c0, c1, c2, c3⟩ := hk.at hi
    have HO := hid ho
    obtain ⟨x, hx⟩ : ∃ x, x = (G[i]'hi).x := ⟨_, rfl⟩
    have hnot := rNotify_some (all := all) ho hi
    rw [← hx] at hnot c2 c3
    have HX := hid hx
    have HNOT := hid hnot
    clear h hk ho c0 c1 hx hnot
    go_enter Try.func21, Try.ntmps21
    go_wp2_with fail
    refine HC.out.mono ?_
    rintro e w2 ⟨⟨b, cap, n0, rfl, rfl⟩, f2⟩
    have hd2 := HD.out.keep0 f2
    obtain ⟨b', cap', e, _⟩ := hd2.lock hi
    injection e with e1 e2 e3
    subst e2 e3
    have F2 := hid (f2.sub (S' := [b]) (by simp))
    have HS := hid (show NotS w w2 tb b cap G i x (.slice none 0 0) [] x.wait (G[i]'hi) from ⟨rfl, by rw [← HX.out]; simp, hd2.start hi, Sli.nil _, F2.out, by simp [fpv, Value.ownBlock]⟩)
    clear f2 hd2 e1
    go_wp2_with fail
    go_loopw [11] (fun vl wr => ∃ d r g, Hid (NotS w wr tb b cap G i x vl d r g) ∧ Hid (all = false → d.length ≤ 1) ∧ ∃ al cl, vl = .slice al d.length cl) (fun v _ => x.wait.length - slen v)
    case atStart => exact ⟨[], x.wait, G[i]'hi, by first | exact HS | exact hid HS.out.drew, hid (by simp), _, _, rfl⟩
    case round =>
      obtain ⟨d, r, g, hs, hone, al, cl, rfl⟩ := hrel
      have HLT := hid (show ∀ z ∈ [tb, b], z < w.heap.size from fun z hz => HD.out.lt z (by simpa [fpv, Value.ownBlock] using hz))
      cases r with
      | nil =>
        have hfin := rnotified_end (x := x) (all := all) hs.out.hw (fun _ => rfl) (fun h => by
          have := hone.out h
          match d, this with
          | [], _ => exact .inl ⟨rfl, rfl⟩
          | [_], _ => exact .inr rfl)
        have HFIN := hid hfin
        obtain ⟨y4, y5, fz⟩ := hs.out.doc.locki hi
        have hq := (hs.out.doc.wqi hi).2
        rw [hs.out.hx] at hq
        obtain ⟨aw, cw, hvw, _, _⟩ := hq.form
        rw [hvw] at y5
        clear hfin y4 fz hq hvw
        go_wp2_with fail
        go_ret2
        rw [HNOT.out, HFIN.out]
        refine ⟨⟨_, rfl, ?_⟩, ?_⟩
        · first | exact hs.out.l | exact hs.out.l.keep0 (Fr.refl _ _).drew
        · first | exact DMv.of hs.out.doc (by rw [List.map_set, hs.out.hx]) hs.out.fr | exact DMv.of (hs.out.doc.keep0 (Fr.refl _ _).drew) (by rw [List.map_set, hs.out.hx]) hs.out.fr.drew
      | cons p r =>
        by_cases hgo : all = true
        · subst hgo
          obtain ⟨y4, y5, fz⟩ := hs.out.doc.locki hi
          have hq := hs.out.doc.wqi hi
          have HGX := hid hs.out.hx
          rw [hs.out.hx] at hq
          obtain ⟨ae, ce, hve, l1, l2⟩ := hq.1.form
          obtain ⟨m, hm⟩ : ∃ m, m = (x.entry ++ d).length := ⟨_, rfl⟩
          have HDL : Hid (d.length ≤ 1000) := hid (by have := hs.out.hw; have := congrArg List.length this; simp at this; omega)
          have hm3 : m ≤ 2000 := by rw [hm, List.length_append]; have := HDL.out; omega
          obtain ⟨be, off, ce', hvw, k1, k2⟩ := hq.2.cell 0 (by simp)
          simp only [List.getD_cons_zero, Nat.zero_mul, Nat.add_zero] at k1 k2
          have hww := hq.2
          dsimp only at hvw hww hve l1
          have lw := hww.form
          rw [hvw] at y5 hww lw
          obtain ⟨_, _, hz, lw1, lw2⟩ := lw
          injection hz with hz1 _ hz3
          subst hz1 hz3
          rw [List.length_cons] at y5 lw1
          have hno : be ≠ b := WQ.ne hs.out.doc hww
          obtain ⟨n, hn⟩ : ∃ n, n = r.length + 1 := ⟨_, rfl⟩
          rw [← hn] at y5 lw1
          have hn0 : 0 < n := by omega
          have hn3 : n ≤ 1001 := by have := hs.out.hw; have := congrArg List.length this; simp at this; omega
          rw [hve, ← hm] at y4
          rw [← hm] at l1
          have u4 := fz (i * 6 + 4)
          have u5 := fz (i * 6 + 5)
          have HVE := hid hve
          have HVW := hid hvw
          have HM := hid hm
          have HN := hid hn
          have HSL := hid hs.out.l
          clear hq hww fz hve hvw hm hn
          go_upto_region 6 with (fail)
          go_upto_region 7 with (at_builtin; refine wpList_append_sli rfl _ _ rfl (.slice al d.length cl) (d.map (·.1)) rfl (HSL.out.keep0 ((Fr.refl _ _).alloc _)) ⟨wr.heap.size, 0, none⟩ p.1 rfl (cell_one_new wr (.int .i64 p.1) 3 0 _ rfl) (by rw [List.length_map]; have := HDL.out; omega) ?_; intro v' w3 q3 f3 b3)
          have FA : Fr (fpv (.slice al d.length cl)) wr w3 := (((Fr.refl _ wr).alloc _).tr f3)
          have HPU := hid (hs.out.push HLT.out FA (fun z hz => (b3 z hz).imp id (fun hz => Nat.le_trans ((Fr.refl [] wr).alloc _).size hz)))
          have HL3 : Hid (Sli w3 v' ((d ++ [p]).map (·.1))) := hid (by rw [List.map_append]; exact q3)
          clear FA f3 b3 q3 y4 y5 u4 u5 k1 k2
          obtain ⟨y4, y5, fz⟩ := HPU.out.1.locki hi
          rw [HVE.out, ← HM.out] at y4
          rw [HVW.out, List.length_cons, ← HN.out] at y5
          have hq := HPU.out.1.wqi hi
          rw [HGX.out, HVW.out] at hq
          obtain ⟨_, _, _, hzz, k1, k2⟩ := hq.2.cell 0 (by simp)
          injection hzz with hz1 _ hz3
          subst hz3
          injection hz1 with hz1
          injection hz1 with hz4 hz5 _
          subst hz4 hz5
          simp only [List.getD_cons_zero, Nat.zero_mul, Nat.add_zero] at k1 k2
          have u4 := fz (i * 6 + 4)
          have u5 := fz (i * 6 + 5)
          obtain ⟨a3, c3', hv3, _, _⟩ := HL3.out.form
          rw [List.length_map] at hv3
          have HV3 := hid hv3
          clear hv3
          have HSW := hid hs.out.hw
          have HQ := hid hq
          clear hq fz
          clear hs HSL HDL
          have HPU2 := hid HPU.out.2.1
          have HPU3 := hid HPU.out.2.2
          have HPU1 := hid HPU.out.1
          clear HPU
          have hlm : (m : Int) ≤ ce := by omega
          have hlc : (ce : Int) ≤ maxLen := by omega
          refine wp_region_T (fun w' => w'.cell? ⟨b, i * 6 + 4, none⟩ = some (.slice ae m ce) ∧ w'.cell? ⟨b, i * 6 + 5, none⟩ = some (.slice (some ⟨be, off, none⟩) n ce') ∧ w'.cell? ⟨be, off, none⟩ = some (.int .i64 p.1) ∧ w'.cell? ⟨be, off + 1, none⟩ = some (.int .i64 p.2)) 26 (by kernel_rfl) ⟨by go_simp, by go_simp, by go_simp, by go_simp⟩ (fun hHeld => ?_)
          refine wpAnyT_take [0] (i := 0) (v := ?va0) rfl (by kernel_rfl) (by kernel_rfl) (by kernel_rfl) (by kernel_rfl) (fun _ _ _ h => h) (Or.inl ⟨by rfl, ?ya0⟩) hHeld ?ra0
          case ya0 => ((intro w hSw; (try dsimp only at hSw); go_simp) <;> with_reducible rfl)
          try simp only [Act.put, List.getElem_toArray, List.getElem_cons_zero, List.getElem_cons_succ, List.setIfInBounds_toArray, List.set_cons_zero, List.set_cons_succ]
          refine wpAnyT_take [1] (i := 1) (v := ?va1) rfl (by kernel_rfl) (by kernel_rfl) (by kernel_rfl) (by kernel_rfl) (fun _ _ _ h => h) (Or.inl ⟨by rfl, ?ya1⟩) hHeld ?ra1
          case ya1 => ((intro w hSw; (try dsimp only at hSw); go_simp) <;> with_reducible rfl)
          try simp only [Act.put, List.getElem_toArray, List.getElem_cons_zero, List.getElem_cons_succ, List.setIfInBounds_toArray, List.set_cons_zero, List.set_cons_succ]
          refine wpAnyT_take [2] (i := 2) (v := ?va2) rfl (by kernel_rfl) (by kernel_rfl) (by kernel_rfl) (by kernel_rfl) (fun _ _ _ h => h) (Or.inl ⟨by rfl, ?ya2⟩) hHeld ?ra2
          case ya2 => ((intro w hSw; (try dsimp only at hSw); go_simp) <;> with_reducible rfl)
          try simp only [Act.put, List.getElem_toArray, List.getElem_cons_zero, List.getElem_cons_succ, List.setIfInBounds_toArray, List.set_cons_zero, List.set_cons_succ]
          refine wpAnyT_take [3] (i := 3) (v := ?va3) rfl (by kernel_rfl) (by kernel_rfl) (by kernel_rfl) (by kernel_rfl) (fun _ _ _ h => h) (Or.inl ⟨by rfl, ?ya3⟩) hHeld ?ra3
          case ya3 => ((intro w hSw; (try dsimp only at hSw); go_simp) <;> with_reducible rfl)
          try simp only [Act.put, List.getElem_toArray, List.getElem_cons_zero, List.getElem_cons_succ, List.setIfInBounds_toArray, List.set_cons_zero, List.set_cons_succ]
          refine wpAnyT_take [4] (i := 4) (v := ?va4) rfl (by kernel_rfl) (by kernel_rfl) (by kernel_rfl) (by kernel_rfl) (fun _ _ _ h => h) (Or.inl ⟨by rfl, ?ya4⟩) hHeld ?ra4
          case ya4 => ((intro w hSw; (try dsimp only at hSw); go_simp) <;> with_reducible rfl)
          try simp only [Act.put, List.getElem_toArray, List.getElem_cons_zero, List.getElem_cons_succ, List.setIfInBounds_toArray, List.set_cons_zero, List.set_cons_succ]
          refine wpAnyT_take [5] (i := 5) (v := ?va5) rfl (by kernel_rfl) (by kernel_rfl) (by kernel_rfl) (by kernel_rfl) (fun _ _ _ h => h) (Or.inl ⟨by rfl, ?ya5⟩) hHeld ?ra5
          case ya5 => ((intro w hSw; (try dsimp only at hSw); go_simp) <;> with_reducible rfl)
          try simp only [Act.put, List.getElem_toArray, List.getElem_cons_zero, List.getElem_cons_succ, List.setIfInBounds_toArray, List.set_cons_zero, List.set_cons_succ]
          refine wpAnyT_take [6] (i := 6) (v := ?va6) rfl (by kernel_rfl) (by kernel_rfl) (by kernel_rfl) (by kernel_rfl) (fun _ _ _ h => h) (Or.inl ⟨by rfl, ?ya6⟩) hHeld ?ra6
          case ya6 => ((intro w hSw; (try dsimp only at hSw); go_simp) <;> with_reducible rfl)
          try simp only [Act.put, List.getElem_toArray, List.getElem_cons_zero, List.getElem_cons_succ, List.setIfInBounds_toArray, List.set_cons_zero, List.set_cons_succ]
          refine wpAnyT_take [7] (i := 7) (v := ?va7) rfl (by kernel_rfl) (by kernel_rfl) (by kernel_rfl) (by kernel_rfl) (fun _ _ _ h => h) (Or.inl ⟨by rfl, ?ya7⟩) hHeld ?ra7
          case ya7 => ((intro w hSw; (try dsimp only at hSw); go_simp) <;> with_reducible rfl)
          try simp only [Act.put, List.getElem_toArray, List.getElem_cons_zero, List.getElem_cons_succ, List.setIfInBounds_toArray, List.set_cons_zero, List.set_cons_succ]
          refine wpAnyT_take [8] (i := 8) (v := ?va8) rfl (by kernel_rfl) (by kernel_rfl) (by kernel_rfl) (by kernel_rfl) (fun _ _ _ h => h) (Or.inl ⟨by rfl, ?ya8⟩) hHeld ?ra8
          case ya8 => ((intro w hSw; (try dsimp only at hSw); go_simp) <;> with_reducible rfl)
          try simp only [Act.put, List.getElem_toArray, List.getElem_cons_zero, List.getElem_cons_succ, List.setIfInBounds_toArray, List.set_cons_zero, List.set_cons_succ]
          refine wpAnyT_take [9] (i := 9) (v := ?va9) rfl (by kernel_rfl) (by kernel_rfl) (by kernel_rfl) (by kernel_rfl) (fun _ _ _ h => h) (Or.inl ⟨by rfl, ?ya9⟩) hHeld ?ra9
          case ya9 => ((intro w hSw; (try dsimp only at hSw); go_simp) <;> with_reducible rfl)
          try simp only [Act.put, List.getElem_toArray, List.getElem_cons_zero, List.getElem_cons_succ, List.setIfInBounds_toArray, List.set_cons_zero, List.set_cons_succ]
          refine wpAnyT_take [10] (i := 10) (v := ?va10) rfl (by kernel_rfl) (by kernel_rfl) (by kernel_rfl) (by kernel_rfl) (fun _ _ _ h => h) (Or.inl ⟨by rfl, ?ya10⟩) hHeld ?ra10
          case ya10 => ((intro w hSw; (try dsimp only at hSw); go_simp) <;> with_reducible rfl)
          try simp only [Act.put, List.getElem_toArray, List.getElem_cons_zero, List.getElem_cons_succ, List.setIfInBounds_toArray, List.set_cons_zero, List.set_cons_succ]
          refine wpAnyT_take [11] (i := 11) (v := ?va11) rfl (by kernel_rfl) (by kernel_rfl) (by kernel_rfl) (by kernel_rfl) (fun _ _ _ h => h) (Or.inl ⟨by rfl, ?ya11⟩) hHeld ?ra11
          case ya11 => ((intro w hSw; (try dsimp only at hSw); go_simp) <;> with_reducible rfl)
          try simp only [Act.put, List.getElem_toArray, List.getElem_cons_zero, List.getElem_cons_succ, List.setIfInBounds_toArray, List.set_cons_zero, List.set_cons_succ]
          refine wpAnyT_take [12] (i := 12) (v := ?va12) rfl (by kernel_rfl) (by kernel_rfl) (by kernel_rfl) (by kernel_rfl) (fun _ _ _ h => h) (Or.inl ⟨by rfl, ?ya12⟩) hHeld ?ra12
          case ya12 => ((intro w hSw; (try dsimp only at hSw); go_simp) <;> with_reducible rfl)
          try simp only [Act.put, List.getElem_toArray, List.getElem_cons_zero, List.getElem_cons_succ, List.setIfInBounds_toArray, List.set_cons_zero, List.set_cons_succ]
          refine wpAnyT_take [13] (i := 13) (v := ?va13) rfl (by kernel_rfl) (by kernel_rfl) (by kernel_rfl) (by kernel_rfl) (fun _ _ _ h => h) (Or.inl ⟨by rfl, ?ya13⟩) hHeld ?ra13
          case ya13 => ((intro w hSw; (try dsimp only at hSw); go_simp) <;> with_reducible rfl)
          try simp only [Act.put, List.getElem_toArray, List.getElem_cons_zero, List.getElem_cons_succ, List.setIfInBounds_toArray, List.set_cons_zero, List.set_cons_succ]
          refine wpAnyT_take [14] (i := 14) (v := ?va14) rfl (by kernel_rfl) (by kernel_rfl) (by kernel_rfl) (by kernel_rfl) (fun _ _ _ h => h) (Or.inl ⟨by rfl, ?ya14⟩) hHeld ?ra14
          case ya14 => ((intro w hSw; (try dsimp only at hSw); go_simp) <;> with_reducible rfl)
          try simp only [Act.put, List.getElem_toArray, List.getElem_cons_zero, List.getElem_cons_succ, List.setIfInBounds_toArray, List.set_cons_zero, List.set_cons_succ]
          refine wpAnyT_take [15] (i := 15) (v := ?va15) rfl (by kernel_rfl) (by kernel_rfl) (by kernel_rfl) (by kernel_rfl) (fun _ _ _ h => h) (Or.inl ⟨by rfl, ?ya15⟩) hHeld ?ra15
          case ya15 => ((intro w hSw; (try dsimp only at hSw); go_simp) <;> with_reducible rfl)
          try simp only [Act.put, List.getElem_toArray, List.getElem_cons_zero, List.getElem_cons_succ, List.setIfInBounds_toArray, List.set_cons_zero, List.set_cons_succ]
          refine wpAnyT_take [16] (i := 16) (v := ?va16) rfl (by kernel_rfl) (by kernel_rfl) (by kernel_rfl) (by kernel_rfl) (fun _ _ _ h => h) (Or.inl ⟨by rfl, ?ya16⟩) hHeld ?ra16
          case ya16 => ((intro w hSw; (try dsimp only at hSw); go_simp) <;> with_reducible rfl)
          try simp only [Act.put, List.getElem_toArray, List.getElem_cons_zero, List.getElem_cons_succ, List.setIfInBounds_toArray, List.set_cons_zero, List.set_cons_succ]
          refine wpAnyT_take [17] (i := 17) (v := ?va17) rfl (by kernel_rfl) (by kernel_rfl) (by kernel_rfl) (by kernel_rfl) (fun _ _ _ h => h) (Or.inl ⟨by rfl, ?ya17⟩) hHeld ?ra17
          case ya17 => ((intro w hSw; (try dsimp only at hSw); go_simp) <;> with_reducible rfl)
          try simp only [Act.put, List.getElem_toArray, List.getElem_cons_zero, List.getElem_cons_succ, List.setIfInBounds_toArray, List.set_cons_zero, List.set_cons_succ]
          refine wpAnyT_take [18] (i := 18) (v := ?va18) rfl (by kernel_rfl) (by kernel_rfl) (by kernel_rfl) (by kernel_rfl) (fun _ _ _ h => h) (Or.inl ⟨by rfl, ?ya18⟩) hHeld ?ra18
          case ya18 => ((intro w hSw; (try dsimp only at hSw); go_simp) <;> with_reducible rfl)
          try simp only [Act.put, List.getElem_toArray, List.getElem_cons_zero, List.getElem_cons_succ, List.setIfInBounds_toArray, List.set_cons_zero, List.set_cons_succ]
          refine wpAnyT_take [19] (i := 19) (v := ?va19) rfl (by kernel_rfl) (by kernel_rfl) (by kernel_rfl) (by kernel_rfl) (fun _ _ _ h => h) (Or.inl ⟨by rfl, ?ya19⟩) hHeld ?ra19
          case ya19 => ((intro w hSw; (try dsimp only at hSw); go_simp) <;> with_reducible rfl)
          try simp only [Act.put, List.getElem_toArray, List.getElem_cons_zero, List.getElem_cons_succ, List.setIfInBounds_toArray, List.set_cons_zero, List.set_cons_succ]
          refine wpAnyT_take [20] (i := 20) (v := ?va20) rfl (by kernel_rfl) (by kernel_rfl) (by kernel_rfl) (by kernel_rfl) (fun _ _ _ h => h) (Or.inl ⟨by rfl, ?ya20⟩) hHeld ?ra20
          case ya20 => ((intro w hSw; (try dsimp only at hSw); go_simp) <;> with_reducible rfl)
          try simp only [Act.put, List.getElem_toArray, List.getElem_cons_zero, List.getElem_cons_succ, List.setIfInBounds_toArray, List.set_cons_zero, List.set_cons_succ]
          refine wpAnyT_take [21] (i := 21) (v := (.agg #[.int .i64 p.1, .int .i64 p.2])) rfl (by kernel_rfl) (by kernel_rfl) (by kernel_rfl) (by kernel_rfl) (fun _ _ _ h => h) (Or.inl ⟨by rfl, ?ya21⟩) hHeld ?ra21
          case ya21 => exact fun w hSw => exec_load rfl (load_wts hSw.2.2.1 hSw.2.2.2)
          try simp only [Act.put, List.getElem_toArray, List.getElem_cons_zero, List.getElem_cons_succ, List.setIfInBounds_toArray, List.set_cons_zero, List.set_cons_succ]
          refine wpAnyT_ready (rs := [22]) (by kernel_rfl) (by simp) ?_
          refine AllReadyT.cons rfl (fun K hK => ?_) AllReadyT.nil
          go_simp
          refine hK.out _ _ ⟨by go_simp; exact ((Fr.refl [] w3).alloc _).cell y4 (by simp), by go_simp; exact ((Fr.refl [] w3).alloc _).cell y5 (by simp), by go_simp; exact ((Fr.refl [] w3).alloc _).cell k1 (by simp), by go_simp; exact ((Fr.refl [] w3).alloc _).cell k2 (by simp)⟩ (fun hHeld => ?_)
          clear hK K
          try simp only [Act.put, List.getElem_toArray, List.getElem_cons_zero, List.getElem_cons_succ, List.setIfInBounds_toArray, List.set_cons_zero, List.set_cons_succ]
          obtain ⟨wA, hwA⟩ : ∃ wA, wA = (w3.alloc (.cells #[.int .i64 p.1, .int .i64 p.2] 80)).drew := ⟨_, rfl⟩
          have FA : Fr [] w3 wA := by rw [hwA]; exact ((Fr.refl [] w3).alloc _).drew
          have x1 : wA.cell? ⟨w3.heap.size, 0, none⟩ = some (vi p.1) := by rw [hwA]; go_simp; first | rfl | simp
          have x2 : wA.cell? ((⟨w3.heap.size, 0, none⟩ : Addr).add 1) = some (vi p.2) := by rw [hwA]; go_simp; first | rfl | simp
          have PA := HPU1.out.keep0 FA
          have WA := (PA.wqi hi).1
          rw [HGX.out, HVE.out] at WA
          dsimp only at WA
          obtain ⟨a', c', w4, hrun, W4, F4⟩ := run_append_wq ⟨ce, WA⟩ (by rw [← HM.out]; omega) ⟨w3.heap.size, 0, none⟩ p x1 x2 75
          rw [← HM.out] at hrun W4
          rw [← hwA] at hHeld ⊢
          refine wpAnyT_ready (rs := [23]) (by kernel_rfl) (by simp) ?_
          refine AllReadyT.cons rfl (fun K hK => ?_) AllReadyT.nil
          refine stepBi .append Builtin.append_ (fun _ _ _ _ => rfl) rfl _ _ _ _ rfl _ _ rfl rfl hrun ?_
          refine hK.out _ _ ⟨F4.cell hHeld.1 (by simp), F4.cell hHeld.2.1 (by simp), F4.cell hHeld.2.2.1 (by simp), F4.cell hHeld.2.2.2 (by simp)⟩ (fun hHeld => ?_)
          clear hK K
          try simp only [Act.put, List.getElem_toArray, List.getElem_cons_zero, List.getElem_cons_succ, List.setIfInBounds_toArray, List.set_cons_zero, List.set_cons_succ]
          have u6 := F4.frozen (FA.cell y4 (by simp)) (FA.frozen y4 u4 (by simp)) (by simp)
          refine wpAnyT_take [25, 24] (i := 24) (v := ?va24) rfl (by kernel_rfl) (by kernel_rfl) (by kernel_rfl) (by kernel_rfl) (fun _ _ _ h => h) (Or.inl ⟨by rfl, ?ya24⟩) hHeld ?ra24
          case ya24 => ((intro w hSw; (try dsimp only at hSw); go_simp) <;> with_reducible rfl)
          try simp only [Act.put, List.getElem_toArray, List.getElem_cons_zero, List.getElem_cons_succ, List.setIfInBounds_toArray, List.set_cons_zero, List.set_cons_succ]
          refine wpAnyT_take [25] (i := 25) (v := ?va25) rfl (by kernel_rfl) (by kernel_rfl) (by kernel_rfl) (by kernel_rfl) (fun _ _ _ h => h) (Or.inl ⟨by rfl, ?ya25⟩) hHeld ?ra25
          case ya25 => ((intro w hSw; (try dsimp only at hSw); go_simp) <;> with_reducible rfl)
          try simp only [Act.put, List.getElem_toArray, List.getElem_cons_zero, List.getElem_cons_succ, List.setIfInBounds_toArray, List.set_cons_zero, List.set_cons_succ]
          refine wpAnyT_ready (rs := [26]) (by kernel_rfl) (by simp) ?_
          refine AllReadyT.last rfl (by kernel_rfl) (fun K hK => ?_) AllReadyT.nil
          go_simp
          refine hK.out _ _ ?_
          clear hK K
          try simp only [Act.put, List.getElem_toArray, List.getElem_cons_zero, List.getElem_cons_succ, List.setIfInBounds_toArray, List.set_cons_zero, List.set_cons_succ]
          refine wpAnyT_done (by kernel_rfl) ?_ _
          have P4 := (PA.keep0 F4).puti (q := 4) hi (by omega) (.slice a' (m + 1) c') ⟨{ x with entry := x.entry ++ d ++ [p], wait := p :: r }, .slice a' (m + 1) c', g.vw⟩ (by unfold RG.cells; rw [HGX.out]; rfl) ⟨W4, (by have := ((PA.keep0 F4).wqi hi).2; rw [HGX.out] at this; exact this)⟩
          have F5 := ((((HPU2.out.tr0 FA).tr0 F4).setCell (p := ⟨b, i * 6 + 4, none⟩) (.inl (by simp)) (.slice a' (m + 1) c')))
          have L5 := ((HL3.out.keep0 FA).keep0 F4).keep ((Fr.refl [b] w4).setCell (p := ⟨b, i * 6 + 4, none⟩) (.inl (by simp)) (.slice a' (m + 1) c')) (fun z hz k => by
            rw [List.mem_singleton] at k
            subst k
            have := HPU3.out z hz
            have := HLT.out z (by simp)
            omega)
          clear u6 hHeld F4 W4 hrun WA PA x1 x2 FA hwA y4 y5 u4 u5 k1 k2
          generalize w4.setCell ⟨b, i * 6 + 4, none⟩ (.slice a' (m + 1) c') = w5 at P4 F5 L5 ⊢
          obtain ⟨_, y5, fz⟩ := P4.locki hi
          dsimp only at y5
          rw [HVW.out, List.length_cons, ← HN.out] at y5
          have u5 := fz (i * 6 + 5)
          have hq := (P4.wqi hi).2
          rw [HVW.out] at hq
          dsimp only at hq
          have HFIN : Hid (∀ a : Addr, a = (if ce' = 1 then ⟨be, off, none⟩ else ⟨be, off + 2, none⟩) → ∃ g', NotS w (w5.setCell ⟨b, i * 6 + 5, none⟩ (.slice (some a) (n - 1) (ce' - 1))) tb b cap G i x v' (d ++ [p]) r g') := hid (by
            intro a ha
            have hta := hq.tail a ha
            have hrn : n - 1 = r.length := by rw [HN.out]; rfl
            rw [hrn]
            have P6 := P4.puti (q := 5) hi (by omega) (.slice (some a) r.length (ce' - 1)) ⟨{ x with entry := x.entry ++ (d ++ [p]), wait := r }, .slice a' (m + 1) c', .slice (some a) r.length (ce' - 1)⟩ (by unfold RG.cells; rfl) ⟨by have := (P4.wqi hi).1; rw [← List.append_assoc]; exact this, hta⟩
            exact ⟨_, by rw [HSW.out]; simp, rfl, P6, L5.keep ((Fr.refl [b] w5).setCell (p := ⟨b, i * 6 + 5, none⟩) (.inl (by simp)) _) (fun z hz k => by
              rw [List.mem_singleton] at k
              subst k
              have := HPU3.out z hz
              have := HLT.out z (by simp)
              omega), F5.setCell (p := ⟨b, i * 6 + 5, none⟩) (.inl (by simp)) _, HPU3.out⟩)
          have HDL1 : Hid ((d ++ [p]).length ≤ x.wait.length ∧ d.length < x.wait.length) := hid (by rw [HSW.out]; simp)
          clear P4 F5 L5 fz hq
          by_cases hc1 : ce' = 1
          · subst hc1
            obtain rfl : n = 1 := by omega
            go_wp2_with fail
            go_roundw
            case rel =>
              obtain ⟨g', hg⟩ := HFIN.out ⟨be, off, none⟩ (by simp)
              exact ⟨d ++ [p], r, g', by first | exact hid hg | exact hid hg.drew, by exact hid (by simp), _, _, HV3.out⟩
            case measure => have := HDL1.out; rw [HV3.out]; simp [slen]; omega
          · have hc2 : 1 < ce' := by omega
            go_wp2_with fail
            go_roundw
            case rel =>
              obtain ⟨g', hg⟩ := HFIN.out ⟨be, off + 2, none⟩ (by rw [if_neg hc1])
              exact ⟨d ++ [p], r, g', by first | exact hid hg | exact hid hg.drew, by exact hid (by simp), _, _, HV3.out⟩
            case measure => have := HDL1.out; rw [HV3.out]; simp [slen]; omega
        · have ha : all = false := by simpa using hgo
          subst ha
          by_cases hd0 : d.length = 0
          · have hd2 : ((d.length : Int) == 0) = true := by simp [hd0]
            have HD0 := hid hd0
            clear hd0
            obtain ⟨y4, y5, fz⟩ := hs.out.doc.locki hi
            have hq := hs.out.doc.wqi hi
            have HGX := hid hs.out.hx
            rw [hs.out.hx] at hq
            obtain ⟨ae, ce, hve, l1, l2⟩ := hq.1.form
            obtain ⟨m, hm⟩ : ∃ m, m = (x.entry ++ d).length := ⟨_, rfl⟩
            have HDL : Hid (d.length ≤ 1000) := hid (by have := hs.out.hw; have := congrArg List.length this; simp at this; omega)
            have hm3 : m ≤ 2000 := by rw [hm, List.length_append]; have := HDL.out; omega
            obtain ⟨be, off, ce', hvw, k1, k2⟩ := hq.2.cell 0 (by simp)
            simp only [List.getD_cons_zero, Nat.zero_mul, Nat.add_zero] at k1 k2
            have hww := hq.2
            dsimp only at hvw hww hve l1
            have lw := hww.form
            rw [hvw] at y5 hww lw
            obtain ⟨_, _, hz, lw1, lw2⟩ := lw
            injection hz with hz1 _ hz3
            subst hz1 hz3
            rw [List.length_cons] at y5 lw1
            have hno : be ≠ b := WQ.ne hs.out.doc hww
            obtain ⟨n, hn⟩ : ∃ n, n = r.length + 1 := ⟨_, rfl⟩
            rw [← hn] at y5 lw1
            have hn0 : 0 < n := by omega
            have hn3 : n ≤ 1001 := by have := hs.out.hw; have := congrArg List.length this; simp at this; omega
            rw [hve, ← hm] at y4
            rw [← hm] at l1
            have u4 := fz (i * 6 + 4)
            have u5 := fz (i * 6 + 5)
            have HVE := hid hve
            have HVW := hid hvw
            have HM := hid hm
            have HN := hid hn
            have HSL := hid hs.out.l
            clear hq hww fz hve hvw hm hn
            go_upto_region 6 with (fail)
            go_upto_region 7 with (at_builtin; refine wpList_append_sli rfl _ _ rfl (.slice al d.length cl) (d.map (·.1)) rfl (HSL.out.keep0 ((Fr.refl _ _).alloc _)) ⟨wr.heap.size, 0, none⟩ p.1 rfl (cell_one_new wr (.int .i64 p.1) 3 0 _ rfl) (by rw [List.length_map]; have := HDL.out; omega) ?_; intro v' w3 q3 f3 b3)
            have FA : Fr (fpv (.slice al d.length cl)) wr w3 := (((Fr.refl _ wr).alloc _).tr f3)
            have HPU := hid (hs.out.push HLT.out FA (fun z hz => (b3 z hz).imp id (fun hz => Nat.le_trans ((Fr.refl [] wr).alloc _).size hz)))
            have HL3 : Hid (Sli w3 v' ((d ++ [p]).map (·.1))) := hid (by rw [List.map_append]; exact q3)
            clear FA f3 b3 q3 y4 y5 u4 u5 k1 k2
            obtain ⟨y4, y5, fz⟩ := HPU.out.1.locki hi
            rw [HVE.out, ← HM.out] at y4
            rw [HVW.out, List.length_cons, ← HN.out] at y5
            have hq := HPU.out.1.wqi hi
            rw [HGX.out, HVW.out] at hq
            obtain ⟨_, _, _, hzz, k1, k2⟩ := hq.2.cell 0 (by simp)
            injection hzz with hz1 _ hz3
            subst hz3
            injection hz1 with hz1
            injection hz1 with hz4 hz5 _
            subst hz4 hz5
            simp only [List.getD_cons_zero, Nat.zero_mul, Nat.add_zero] at k1 k2
            have u4 := fz (i * 6 + 4)
            have u5 := fz (i * 6 + 5)
            obtain ⟨a3, c3', hv3, _, _⟩ := HL3.out.form
            rw [List.length_map] at hv3
            have HV3 := hid hv3
            clear hv3
            have HSW := hid hs.out.hw
            have HQ := hid hq
            clear hq fz
            clear hs HSL HDL
            have HPU2 := hid HPU.out.2.1
            have HPU3 := hid HPU.out.2.2
            have HPU1 := hid HPU.out.1
            clear HPU
            have hlm : (m : Int) ≤ ce := by omega
            have hlc : (ce : Int) ≤ maxLen := by omega
            refine wp_region_T (fun w' => w'.cell? ⟨b, i * 6 + 4, none⟩ = some (.slice ae m ce) ∧ w'.cell? ⟨b, i * 6 + 5, none⟩ = some (.slice (some ⟨be, off, none⟩) n ce') ∧ w'.cell? ⟨be, off, none⟩ = some (.int .i64 p.1) ∧ w'.cell? ⟨be, off + 1, none⟩ = some (.int .i64 p.2)) 26 (by kernel_rfl) ⟨by go_simp, by go_simp, by go_simp, by go_simp⟩ (fun hHeld => ?_)
            refine wpAnyT_take [0] (i := 0) (v := ?vb0) rfl (by kernel_rfl) (by kernel_rfl) (by kernel_rfl) (by kernel_rfl) (fun _ _ _ h => h) (Or.inl ⟨by rfl, ?yb0⟩) hHeld ?rb0
            case yb0 => ((intro w hSw; (try dsimp only at hSw); go_simp) <;> with_reducible rfl)
            try simp only [Act.put, List.getElem_toArray, List.getElem_cons_zero, List.getElem_cons_succ, List.setIfInBounds_toArray, List.set_cons_zero, List.set_cons_succ]
            refine wpAnyT_take [1] (i := 1) (v := ?vb1) rfl (by kernel_rfl) (by kernel_rfl) (by kernel_rfl) (by kernel_rfl) (fun _ _ _ h => h) (Or.inl ⟨by rfl, ?yb1⟩) hHeld ?rb1
            case yb1 => ((intro w hSw; (try dsimp only at hSw); go_simp) <;> with_reducible rfl)
            try simp only [Act.put, List.getElem_toArray, List.getElem_cons_zero, List.getElem_cons_succ, List.setIfInBounds_toArray, List.set_cons_zero, List.set_cons_succ]
            refine wpAnyT_take [2] (i := 2) (v := ?vb2) rfl (by kernel_rfl) (by kernel_rfl) (by kernel_rfl) (by kernel_rfl) (fun _ _ _ h => h) (Or.inl ⟨by rfl, ?yb2⟩) hHeld ?rb2
            case yb2 => ((intro w hSw; (try dsimp only at hSw); go_simp) <;> with_reducible rfl)
            try simp only [Act.put, List.getElem_toArray, List.getElem_cons_zero, List.getElem_cons_succ, List.setIfInBounds_toArray, List.set_cons_zero, List.set_cons_succ]
            refine wpAnyT_take [3] (i := 3) (v := ?vb3) rfl (by kernel_rfl) (by kernel_rfl) (by kernel_rfl) (by kernel_rfl) (fun _ _ _ h => h) (Or.inl ⟨by rfl, ?yb3⟩) hHeld ?rb3
            case yb3 => ((intro w hSw; (try dsimp only at hSw); go_simp) <;> with_reducible rfl)
            try simp only [Act.put, List.getElem_toArray, List.getElem_cons_zero, List.getElem_cons_succ, List.setIfInBounds_toArray, List.set_cons_zero, List.set_cons_succ]
            refine wpAnyT_take [4] (i := 4) (v := ?vb4) rfl (by kernel_rfl) (by kernel_rfl) (by kernel_rfl) (by kernel_rfl) (fun _ _ _ h => h) (Or.inl ⟨by rfl, ?yb4⟩) hHeld ?rb4
            case yb4 => ((intro w hSw; (try dsimp only at hSw); go_simp) <;> with_reducible rfl)
            try simp only [Act.put, List.getElem_toArray, List.getElem_cons_zero, List.getElem_cons_succ, List.setIfInBounds_toArray, List.set_cons_zero, List.set_cons_succ]
            refine wpAnyT_take [5] (i := 5) (v := ?vb5) rfl (by kernel_rfl) (by kernel_rfl) (by kernel_rfl) (by kernel_rfl) (fun _ _ _ h => h) (Or.inl ⟨by rfl, ?yb5⟩) hHeld ?rb5
            case yb5 => ((intro w hSw; (try dsimp only at hSw); go_simp) <;> with_reducible rfl)
            try simp only [Act.put, List.getElem_toArray, List.getElem_cons_zero, List.getElem_cons_succ, List.setIfInBounds_toArray, List.set_cons_zero, List.set_cons_succ]
            refine wpAnyT_take [6] (i := 6) (v := ?vb6) rfl (by kernel_rfl) (by kernel_rfl) (by kernel_rfl) (by kernel_rfl) (fun _ _ _ h => h) (Or.inl ⟨by rfl, ?yb6⟩) hHeld ?rb6
            case yb6 => ((intro w hSw; (try dsimp only at hSw); go_simp) <;> with_reducible rfl)
            try simp only [Act.put, List.getElem_toArray, List.getElem_cons_zero, List.getElem_cons_succ, List.setIfInBounds_toArray, List.set_cons_zero, List.set_cons_succ]
            refine wpAnyT_take [7] (i := 7) (v := ?vb7) rfl (by kernel_rfl) (by kernel_rfl) (by kernel_rfl) (by kernel_rfl) (fun _ _ _ h => h) (Or.inl ⟨by rfl, ?yb7⟩) hHeld ?rb7
            case yb7 => ((intro w hSw; (try dsimp only at hSw); go_simp) <;> with_reducible rfl)
            try simp only [Act.put, List.getElem_toArray, List.getElem_cons_zero, List.getElem_cons_succ, List.setIfInBounds_toArray, List.set_cons_zero, List.set_cons_succ]
            refine wpAnyT_take [8] (i := 8) (v := ?vb8) rfl (by kernel_rfl) (by kernel_rfl) (by kernel_rfl) (by kernel_rfl) (fun _ _ _ h => h) (Or.inl ⟨by rfl, ?yb8⟩) hHeld ?rb8
            case yb8 => ((intro w hSw; (try dsimp only at hSw); go_simp) <;> with_reducible rfl)
            try simp only [Act.put, List.getElem_toArray, List.getElem_cons_zero, List.getElem_cons_succ, List.setIfInBounds_toArray, List.set_cons_zero, List.set_cons_succ]
            refine wpAnyT_take [9] (i := 9) (v := ?vb9) rfl (by kernel_rfl) (by kernel_rfl) (by kernel_rfl) (by kernel_rfl) (fun _ _ _ h => h) (Or.inl ⟨by rfl, ?yb9⟩) hHeld ?rb9
            case yb9 => ((intro w hSw; (try dsimp only at hSw); go_simp) <;> with_reducible rfl)
            try simp only [Act.put, List.getElem_toArray, List.getElem_cons_zero, List.getElem_cons_succ, List.setIfInBounds_toArray, List.set_cons_zero, List.set_cons_succ]
            refine wpAnyT_take [10] (i := 10) (v := ?vb10) rfl (by kernel_rfl) (by kernel_rfl) (by kernel_rfl) (by kernel_rfl) (fun _ _ _ h => h) (Or.inl ⟨by rfl, ?yb10⟩) hHeld ?rb10
            case yb10 => ((intro w hSw; (try dsimp only at hSw); go_simp) <;> with_reducible rfl)
            try simp only [Act.put, List.getElem_toArray, List.getElem_cons_zero, List.getElem_cons_succ, List.setIfInBounds_toArray, List.set_cons_zero, List.set_cons_succ]
            refine wpAnyT_take [11] (i := 11) (v := ?vb11) rfl (by kernel_rfl) (by kernel_rfl) (by kernel_rfl) (by kernel_rfl) (fun _ _ _ h => h) (Or.inl ⟨by rfl, ?yb11⟩) hHeld ?rb11
            case yb11 => ((intro w hSw; (try dsimp only at hSw); go_simp) <;> with_reducible rfl)
            try simp only [Act.put, List.getElem_toArray, List.getElem_cons_zero, List.getElem_cons_succ, List.setIfInBounds_toArray, List.set_cons_zero, List.set_cons_succ]
            refine wpAnyT_take [12] (i := 12) (v := ?vb12) rfl (by kernel_rfl) (by kernel_rfl) (by kernel_rfl) (by kernel_rfl) (fun _ _ _ h => h) (Or.inl ⟨by rfl, ?yb12⟩) hHeld ?rb12
            case yb12 => ((intro w hSw; (try dsimp only at hSw); go_simp) <;> with_reducible rfl)
            try simp only [Act.put, List.getElem_toArray, List.getElem_cons_zero, List.getElem_cons_succ, List.setIfInBounds_toArray, List.set_cons_zero, List.set_cons_succ]
            refine wpAnyT_take [13] (i := 13) (v := ?vb13) rfl (by kernel_rfl) (by kernel_rfl) (by kernel_rfl) (by kernel_rfl) (fun _ _ _ h => h) (Or.inl ⟨by rfl, ?yb13⟩) hHeld ?rb13
            case yb13 => ((intro w hSw; (try dsimp only at hSw); go_simp) <;> with_reducible rfl)
            try simp only [Act.put, List.getElem_toArray, List.getElem_cons_zero, List.getElem_cons_succ, List.setIfInBounds_toArray, List.set_cons_zero, List.set_cons_succ]
            refine wpAnyT_take [14] (i := 14) (v := ?vb14) rfl (by kernel_rfl) (by kernel_rfl) (by kernel_rfl) (by kernel_rfl) (fun _ _ _ h => h) (Or.inl ⟨by rfl, ?yb14⟩) hHeld ?rb14
            case yb14 => ((intro w hSw; (try dsimp only at hSw); go_simp) <;> with_reducible rfl)
            try simp only [Act.put, List.getElem_toArray, List.getElem_cons_zero, List.getElem_cons_succ, List.setIfInBounds_toArray, List.set_cons_zero, List.set_cons_succ]
            refine wpAnyT_take [15] (i := 15) (v := ?vb15) rfl (by kernel_rfl) (by kernel_rfl) (by kernel_rfl) (by kernel_rfl) (fun _ _ _ h => h) (Or.inl ⟨by rfl, ?yb15⟩) hHeld ?rb15
            case yb15 => ((intro w hSw; (try dsimp only at hSw); go_simp) <;> with_reducible rfl)
            try simp only [Act.put, List.getElem_toArray, List.getElem_cons_zero, List.getElem_cons_succ, List.setIfInBounds_toArray, List.set_cons_zero, List.set_cons_succ]
            refine wpAnyT_take [16] (i := 16) (v := ?vb16) rfl (by kernel_rfl) (by kernel_rfl) (by kernel_rfl) (by kernel_rfl) (fun _ _ _ h => h) (Or.inl ⟨by rfl, ?yb16⟩) hHeld ?rb16
            case yb16 => ((intro w hSw; (try dsimp only at hSw); go_simp) <;> with_reducible rfl)
            try simp only [Act.put, List.getElem_toArray, List.getElem_cons_zero, List.getElem_cons_succ, List.setIfInBounds_toArray, List.set_cons_zero, List.set_cons_succ]
            refine wpAnyT_take [17] (i := 17) (v := ?vb17) rfl (by kernel_rfl) (by kernel_rfl) (by kernel_rfl) (by kernel_rfl) (fun _ _ _ h => h) (Or.inl ⟨by rfl, ?yb17⟩) hHeld ?rb17
            case yb17 => ((intro w hSw; (try dsimp only at hSw); go_simp) <;> with_reducible rfl)
            try simp only [Act.put, List.getElem_toArray, List.getElem_cons_zero, List.getElem_cons_succ, List.setIfInBounds_toArray, List.set_cons_zero, List.set_cons_succ]
            refine wpAnyT_take [18] (i := 18) (v := ?vb18) rfl (by kernel_rfl) (by kernel_rfl) (by kernel_rfl) (by kernel_rfl) (fun _ _ _ h => h) (Or.inl ⟨by rfl, ?yb18⟩) hHeld ?rb18
            case yb18 => ((intro w hSw; (try dsimp only at hSw); go_simp) <;> with_reducible rfl)
            try simp only [Act.put, List.getElem_toArray, List.getElem_cons_zero, List.getElem_cons_succ, List.setIfInBounds_toArray, List.set_cons_zero, List.set_cons_succ]
            refine wpAnyT_take [19] (i := 19) (v := ?vb19) rfl (by kernel_rfl) (by kernel_rfl) (by kernel_rfl) (by kernel_rfl) (fun _ _ _ h => h) (Or.inl ⟨by rfl, ?yb19⟩) hHeld ?rb19
            case yb19 => ((intro w hSw; (try dsimp only at hSw); go_simp) <;> with_reducible rfl)
            try simp only [Act.put, List.getElem_toArray, List.getElem_cons_zero, List.getElem_cons_succ, List.setIfInBounds_toArray, List.set_cons_zero, List.set_cons_succ]
            refine wpAnyT_take [20] (i := 20) (v := ?vb20) rfl (by kernel_rfl) (by kernel_rfl) (by kernel_rfl) (by kernel_rfl) (fun _ _ _ h => h) (Or.inl ⟨by rfl, ?yb20⟩) hHeld ?rb20
            case yb20 => ((intro w hSw; (try dsimp only at hSw); go_simp) <;> with_reducible rfl)
            try simp only [Act.put, List.getElem_toArray, List.getElem_cons_zero, List.getElem_cons_succ, List.setIfInBounds_toArray, List.set_cons_zero, List.set_cons_succ]
            refine wpAnyT_take [21] (i := 21) (v := (.agg #[.int .i64 p.1, .int .i64 p.2])) rfl (by kernel_rfl) (by kernel_rfl) (by kernel_rfl) (by kernel_rfl) (fun _ _ _ h => h) (Or.inl ⟨by rfl, ?yb21⟩) hHeld ?rb21
            case yb21 => exact fun w hSw => exec_load rfl (load_wts hSw.2.2.1 hSw.2.2.2)
            try simp only [Act.put, List.getElem_toArray, List.getElem_cons_zero, List.getElem_cons_succ, List.setIfInBounds_toArray, List.set_cons_zero, List.set_cons_succ]
            refine wpAnyT_ready (rs := [22]) (by kernel_rfl) (by simp) ?_
            refine AllReadyT.cons rfl (fun K hK => ?_) AllReadyT.nil
            go_simp
            refine hK.out _ _ ⟨by go_simp; exact ((Fr.refl [] w3).alloc _).cell y4 (by simp), by go_simp; exact ((Fr.refl [] w3).alloc _).cell y5 (by simp), by go_simp; exact ((Fr.refl [] w3).alloc _).cell k1 (by simp), by go_simp; exact ((Fr.refl [] w3).alloc _).cell k2 (by simp)⟩ (fun hHeld => ?_)
            clear hK K
            try simp only [Act.put, List.getElem_toArray, List.getElem_cons_zero, List.getElem_cons_succ, List.setIfInBounds_toArray, List.set_cons_zero, List.set_cons_succ]
            obtain ⟨wA, hwA⟩ : ∃ wA, wA = (w3.alloc (.cells #[.int .i64 p.1, .int .i64 p.2] 80)).drew := ⟨_, rfl⟩
            have FA : Fr [] w3 wA := by rw [hwA]; exact ((Fr.refl [] w3).alloc _).drew
            have x1 : wA.cell? ⟨w3.heap.size, 0, none⟩ = some (vi p.1) := by rw [hwA]; go_simp; first | rfl | simp
            have x2 : wA.cell? ((⟨w3.heap.size, 0, none⟩ : Addr).add 1) = some (vi p.2) := by rw [hwA]; go_simp; first | rfl | simp
            have PA := HPU1.out.keep0 FA
            have WA := (PA.wqi hi).1
            rw [HGX.out, HVE.out] at WA
            dsimp only at WA
            obtain ⟨a', c', w4, hrun, W4, F4⟩ := run_append_wq ⟨ce, WA⟩ (by rw [← HM.out]; omega) ⟨w3.heap.size, 0, none⟩ p x1 x2 75
            rw [← HM.out] at hrun W4
            rw [← hwA] at hHeld ⊢
            refine wpAnyT_ready (rs := [23]) (by kernel_rfl) (by simp) ?_
            refine AllReadyT.cons rfl (fun K hK => ?_) AllReadyT.nil
            refine stepBi .append Builtin.append_ (fun _ _ _ _ => rfl) rfl _ _ _ _ rfl _ _ rfl rfl hrun ?_
            refine hK.out _ _ ⟨F4.cell hHeld.1 (by simp), F4.cell hHeld.2.1 (by simp), F4.cell hHeld.2.2.1 (by simp), F4.cell hHeld.2.2.2 (by simp)⟩ (fun hHeld => ?_)
            clear hK K
            try simp only [Act.put, List.getElem_toArray, List.getElem_cons_zero, List.getElem_cons_succ, List.setIfInBounds_toArray, List.set_cons_zero, List.set_cons_succ]
            have u6 := F4.frozen (FA.cell y4 (by simp)) (FA.frozen y4 u4 (by simp)) (by simp)
            refine wpAnyT_take [25, 24] (i := 24) (v := ?vb24) rfl (by kernel_rfl) (by kernel_rfl) (by kernel_rfl) (by kernel_rfl) (fun _ _ _ h => h) (Or.inl ⟨by rfl, ?yb24⟩) hHeld ?rb24
            case yb24 => ((intro w hSw; (try dsimp only at hSw); go_simp) <;> with_reducible rfl)
            try simp only [Act.put, List.getElem_toArray, List.getElem_cons_zero, List.getElem_cons_succ, List.setIfInBounds_toArray, List.set_cons_zero, List.set_cons_succ]
            refine wpAnyT_take [25] (i := 25) (v := ?vb25) rfl (by kernel_rfl) (by kernel_rfl) (by kernel_rfl) (by kernel_rfl) (fun _ _ _ h => h) (Or.inl ⟨by rfl, ?yb25⟩) hHeld ?rb25
            case yb25 => ((intro w hSw; (try dsimp only at hSw); go_simp) <;> with_reducible rfl)
            try simp only [Act.put, List.getElem_toArray, List.getElem_cons_zero, List.getElem_cons_succ, List.setIfInBounds_toArray, List.set_cons_zero, List.set_cons_succ]
            refine wpAnyT_ready (rs := [26]) (by kernel_rfl) (by simp) ?_
            refine AllReadyT.last rfl (by kernel_rfl) (fun K hK => ?_) AllReadyT.nil
            go_simp
            refine hK.out _ _ ?_
            clear hK K
            try simp only [Act.put, List.getElem_toArray, List.getElem_cons_zero, List.getElem_cons_succ, List.setIfInBounds_toArray, List.set_cons_zero, List.set_cons_succ]
            refine wpAnyT_done (by kernel_rfl) ?_ _
            have P4 := (PA.keep0 F4).puti (q := 4) hi (by omega) (.slice a' (m + 1) c') ⟨{ x with entry := x.entry ++ d ++ [p], wait := p :: r }, .slice a' (m + 1) c', g.vw⟩ (by unfold RG.cells; rw [HGX.out]; rfl) ⟨W4, (by have := ((PA.keep0 F4).wqi hi).2; rw [HGX.out] at this; exact this)⟩
            have F5 := ((((HPU2.out.tr0 FA).tr0 F4).setCell (p := ⟨b, i * 6 + 4, none⟩) (.inl (by simp)) (.slice a' (m + 1) c')))
            have L5 := ((HL3.out.keep0 FA).keep0 F4).keep ((Fr.refl [b] w4).setCell (p := ⟨b, i * 6 + 4, none⟩) (.inl (by simp)) (.slice a' (m + 1) c')) (fun z hz k => by
              rw [List.mem_singleton] at k
              subst k
              have := HPU3.out z hz
              have := HLT.out z (by simp)
              omega)
            clear u6 hHeld F4 W4 hrun WA PA x1 x2 FA hwA y4 y5 u4 u5 k1 k2
            generalize w4.setCell ⟨b, i * 6 + 4, none⟩ (.slice a' (m + 1) c') = w5 at P4 F5 L5 ⊢
            obtain ⟨_, y5, fz⟩ := P4.locki hi
            dsimp only at y5
            rw [HVW.out, List.length_cons, ← HN.out] at y5
            have u5 := fz (i * 6 + 5)
            have hq := (P4.wqi hi).2
            rw [HVW.out] at hq
            dsimp only at hq
            have HFIN : Hid (∀ a : Addr, a = (if ce' = 1 then ⟨be, off, none⟩ else ⟨be, off + 2, none⟩) → ∃ g', NotS w (w5.setCell ⟨b, i * 6 + 5, none⟩ (.slice (some a) (n - 1) (ce' - 1))) tb b cap G i x v' (d ++ [p]) r g') := hid (by
              intro a ha
              have hta := hq.tail a ha
              have hrn : n - 1 = r.length := by rw [HN.out]; rfl
              rw [hrn]
              have P6 := P4.puti (q := 5) hi (by omega) (.slice (some a) r.length (ce' - 1)) ⟨{ x with entry := x.entry ++ (d ++ [p]), wait := r }, .slice a' (m + 1) c', .slice (some a) r.length (ce' - 1)⟩ (by unfold RG.cells; rfl) ⟨by have := (P4.wqi hi).1; rw [← List.append_assoc]; exact this, hta⟩
              exact ⟨_, by rw [HSW.out]; simp, rfl, P6, L5.keep ((Fr.refl [b] w5).setCell (p := ⟨b, i * 6 + 5, none⟩) (.inl (by simp)) _) (fun z hz k => by
                rw [List.mem_singleton] at k
                subst k
                have := HPU3.out z hz
                have := HLT.out z (by simp)
                omega), F5.setCell (p := ⟨b, i * 6 + 5, none⟩) (.inl (by simp)) _, HPU3.out⟩)
            have HDL1 : Hid ((d ++ [p]).length ≤ x.wait.length ∧ d.length < x.wait.length) := hid (by rw [HSW.out]; simp)
            clear P4 F5 L5 fz hq
            by_cases hc1 : ce' = 1
            · subst hc1
              obtain rfl : n = 1 := by omega
              go_wp2_with fail
              go_roundw
              case rel =>
                obtain ⟨g', hg⟩ := HFIN.out ⟨be, off, none⟩ (by simp)
                exact ⟨d ++ [p], r, g', by first | exact hid hg | exact hid hg.drew, by exact hid (fun _ => by rw [List.length_append, HD0.out]; simp), _, _, HV3.out⟩
              case measure => have := HDL1.out; rw [HV3.out]; simp [slen]; omega
            · have hc2 : 1 < ce' := by omega
              go_wp2_with fail
              go_roundw
              case rel =>
                obtain ⟨g', hg⟩ := HFIN.out ⟨be, off + 2, none⟩ (by rw [if_neg hc1])
                exact ⟨d ++ [p], r, g', by first | exact hid hg | exact hid hg.drew, by exact hid (fun _ => by rw [List.length_append, HD0.out]; simp), _, _, HV3.out⟩
              case measure => have := HDL1.out; rw [HV3.out]; simp [slen]; omega
          have hd1 : d.length = 1 := by have := hone.out rfl; omega
          have hfin := rnotified_end (x := x) (all := false) hs.out.hw (fun h => by cases h) (fun _ => .inr hd1)
          have HFIN := hid hfin
          obtain ⟨y4, y5, fz⟩ := hs.out.doc.locki hi
          have hq := (hs.out.doc.wqi hi).2
          rw [hs.out.hx] at hq
          obtain ⟨aw, cw, hvw, _, _⟩ := hq.form
          rw [hvw] at y5
          rw [List.length_cons] at y5
          clear hfin y4 fz hq hvw
          go_wp2_with fail
          go_ret2
          rw [HNOT.out, HFIN.out]
          refine ⟨⟨_, rfl, ?_⟩, ?_⟩
          · first | exact hs.out.l | exact hs.out.l.keep0 (Fr.refl _ _).drew | (rw [← hd1]; exact hs.out.l) | (rw [← hd1]; exact hs.out.l.keep0 (Fr.refl _ _).drew)
          · first | exact DMv.of hs.out.doc (by rw [List.map_set, hs.out.hx]) hs.out.fr | exact DMv.of (hs.out.doc.keep0 (Fr.refl _ _).drew) (by rw [List.map_set, hs.out.hx]) hs.out.fr.drew

end Go.Proofs.Ythdmgjkipiaccaa
