/-
  Package race: the walks of a watch's methods.
-/
import Derived.Test.YtjkakhjajfpldaaRaceB
namespace Go.Proofs.Ytjkakhjajfpldaa
open Go.RowKit

theorem Fresh.bump {w w1 : World} {g : Nat} {n cap : Nat} {c : List Int} (h : Fresh w w1 (.slice (some ⟨g, 0, none⟩) n cap) c) (t : Nat) (ht : t < 13) :
    w1.cell? ⟨g, t, none⟩ = some (.int .i64 (c.getD t 0)) ∧ w1.frozen? ⟨g, t, none⟩ = false ∧ w.heap.size ≤ g ∧ n = 13 ∧ cap = 13 ∧ Fr [g] w1 (w1.setCell ⟨g, t, none⟩ (.int .i64 (wrap64 (c.getD t 0 + 1)))) ∧
    Clk (w1.setCell ⟨g, t, none⟩ (.int .i64 (wrap64 (c.getD t 0 + 1)))) (.slice (some ⟨g, 0, none⟩) n cap) (bump c t) := by
  obtain ⟨g', cs, e, hg, hh, hs, hl, hk⟩ := h
  cases e
  refine ⟨by rw [cell_of_row _ _ _ _ _ _ hh]; exact hk t ht, frozen_of_row _ _ _ _ _ hh, hg, rfl, rfl, (Fr.refl _ _).setCell (Or.inl (by simp)) _, ?_⟩
  have hlb : (Go.Proofs.Ytjkakhjajfpldaa.bump c t).length = 13 := by simp [Go.Proofs.Ytjkakhjajfpldaa.bump, hl]
  refine ⟨_, 13, by rw [hlb], by omega, fun _ => ⟨g, 0, cs.setIfInBounds t (.int .i64 (wrap64 (c.getD t 0 + 1))), _, rfl, heap_setCell_same _ _ _ _ _ _ hh, fun k hk' => ?_⟩⟩
  rw [Nat.zero_add]
  rw [hlb] at hk'
  by_cases e : t = k
  · subst e; simp [Go.Proofs.Ytjkakhjajfpldaa.bump, List.getD, hl, hs, ht]
  · rw [Array.getElem?_setIfInBounds_ne e, hk k hk']
    simp [Go.Proofs.Ytjkakhjajfpldaa.bump, List.getD, e]

theorem Fresh.form {w w1 : World} {v : Value} {c : List Int} (h : Fresh w w1 v c) : ∃ g, v = .slice (some ⟨g, 0, none⟩) 13 13 := by
  obtain ⟨g, cs, e, _⟩ := h; exact ⟨g, e⟩

set_option maxHeartbeats 400000 in
theorem ticks_any (w : World) (p : Ptrs) (s : St) (t : Nat) (ht : t ≤ 12) (h : Watch w p s) :
    Calls Try.prog 40 #[.pointer (some ⟨p.b, 0, none⟩), .int .i64 t] w fun e w' => e = .returned (.tuple #[]) ∧ Watch w' p (s.tick t) ∧ Fr p.S w w' := by
  obtain ⟨v, hcell, hv⟩ := h.thread t (by omega)
  have htt : (t : Int) ≤ 12 := by omega
  go_enter Try.func40, Try.ntmps40
  go_wp2_with fail
  refine (join_any w v (.slice none 0 0) _ [] hv (Clk.nil w)).mono ?_
  rintro e w1 ⟨r, rfl, hr, f1⟩
  obtain ⟨g, rfl⟩ := hr.form
  obtain ⟨c1, c2, hg, _, _, f2, hc⟩ := hr.bump t (by omega)
  have f12 : Fr [] w (w1.setCell ⟨g, t, none⟩ (.int .i64 (wrap64 ((joinL (s.th.getD t []) []).getD t 0 + 1)))) := f1.trans f2 (fun x hx => Or.inr (by simp only [List.mem_singleton] at hx; omega))
  have h2 := h.keep0 f12
  obtain ⟨v2, hcell2, _⟩ := h2.thread t (by omega)
  have hfree2 := h2.free t
  have H3 := hid (h2.set t (by omega) hc)
  have F3 := hid (f12.sub (S' := p.S) (by simp) |>.setCell (p := ⟨p.b, t, none⟩) (Or.inl (by simp [Ptrs.S])) (.slice (some ⟨g, 0, none⟩) 13 13))
  clear h2 f12 hc f2 f1 hr h hv
  generalize (joinL (s.th.getD t []) []).getD t 0 = x at *
  go_wp2_with fail
  go_end0
  exact ⟨rfl, H3.out, F3.out⟩

/-! ### stores into the maps -/
theorem Watch.ints {w : World} {p : Ptrs} {s : St} (h : Watch w p s) {x : Nat} (hx : x ∈ p.S) : NoInts w [x] := fun y hy => h.noInts y (by simp only [List.mem_singleton] at hy; subst hy; exact hx)
theorem Watch.bne {w : World} {p : Ptrs} {s : St} (h : Watch w p s) {x : Nat} (hx : ∃ es c, w.heap[x]? = some (.map es c)) : p.b ≠ x := by
  obtain ⟨ts, _, _, hb, _⟩ := h.blk
  obtain ⟨es, c, hx⟩ := hx
  intro e; subst e; rw [hb] at hx; cases hx
theorem Watch.blk' {w w' : World} {p : Ptrs} {s : St} (h : Watch w p s) {x : Nat} (f : Fr [x] w w') (hx : x ∈ p.S) (hb : p.b ≠ x) :
    ∃ ts : List Value, ts.length = 13 ∧ s.th.length = 13 ∧ w'.heap[p.b]? = some (.cells (wcells ts p s.races) 62 (0, 0)) ∧ ∀ i, i < 13 → Clk w' (ts.getD i undef) (s.th.getD i []) := by
  obtain ⟨ts, h1, h2, hb', hc⟩ := h.blk
  exact ⟨ts, h1, h2, f.obj hb' (by simpa using hb), fun i hi => (hc i hi).keep f (h.ints hx)⟩

theorem Watch.putEnds {w w' : World} {p : Ptrs} {s : St} (h : Watch w p s) (f : Fr [p.e] w w') {m : List (Int × List Int)} (hm : CMap w' p.e intK m) : Watch w' p { s with ends := m } := by
  have hx : p.e ∈ p.S := by simp [Ptrs.S]
  have hi := h.ints hx
  have nd := h.nodup
  simp only [List.nodup_cons, List.mem_cons, not_or] at nd
  obtain ⟨⟨n1, n2, n3, n4, _⟩, ⟨n5, n6, n7, _⟩, ⟨n8, n9, _⟩, ⟨n10, _⟩, _⟩ := nd
  exact ⟨h.blk' f hx (h.bne h.ends.isMap), hm, h.locks.keep f (by simp [Ne.symm n1]) hi, h.words.keep f (by simp [Ne.symm n2]) hi, h.reads.keep f (by simp [Ne.symm n3]) hi, h.writes.keep f (by simp [Ne.symm n4]) hi, h.nodup⟩
theorem Watch.putLocks {w w' : World} {p : Ptrs} {s : St} (h : Watch w p s) (f : Fr [p.l] w w') {m : List (Int × List Int)} (hm : CMap w' p.l intK m) : Watch w' p { s with locks := m } := by
  have hx : p.l ∈ p.S := by simp [Ptrs.S]
  have hi := h.ints hx
  have nd := h.nodup
  simp only [List.nodup_cons, List.mem_cons, not_or] at nd
  obtain ⟨⟨n1, n2, n3, n4, _⟩, ⟨n5, n6, n7, _⟩, ⟨n8, n9, _⟩, ⟨n10, _⟩, _⟩ := nd
  exact ⟨h.blk' f hx (h.bne h.locks.isMap), h.ends.keep f (by simp [n1]) hi, hm, h.words.keep f (by simp [Ne.symm n5]) hi, h.reads.keep f (by simp [Ne.symm n6]) hi, h.writes.keep f (by simp [Ne.symm n7]) hi, h.nodup⟩
theorem Watch.putWords {w w' : World} {p : Ptrs} {s : St} (h : Watch w p s) (f : Fr [p.wd] w w') {m : List ((Int × Int) × List Int)} (hm : CMap w' p.wd wordK m) : Watch w' p { s with words := m } := by
  have hx : p.wd ∈ p.S := by simp [Ptrs.S]
  have hi := h.ints hx
  have nd := h.nodup
  simp only [List.nodup_cons, List.mem_cons, not_or] at nd
  obtain ⟨⟨n1, n2, n3, n4, _⟩, ⟨n5, n6, n7, _⟩, ⟨n8, n9, _⟩, ⟨n10, _⟩, _⟩ := nd
  exact ⟨h.blk' f hx (h.bne h.words.isMap), h.ends.keep f (by simp [n2]) hi, h.locks.keep f (by simp [n5]) hi, hm, h.reads.keep f (by simp [Ne.symm n8]) hi, h.writes.keep f (by simp [Ne.symm n9]) hi, h.nodup⟩
theorem Watch.putReads {w w' : World} {p : Ptrs} {s : St} (h : Watch w p s) (f : Fr [p.rd] w w') {m : List (((Int × Int) × Int) × List Int)} (hm : CMap w' p.rd accK m) : Watch w' p { s with reads := m } := by
  have hx : p.rd ∈ p.S := by simp [Ptrs.S]
  have hi := h.ints hx
  have nd := h.nodup
  simp only [List.nodup_cons, List.mem_cons, not_or] at nd
  obtain ⟨⟨n1, n2, n3, n4, _⟩, ⟨n5, n6, n7, _⟩, ⟨n8, n9, _⟩, ⟨n10, _⟩, _⟩ := nd
  exact ⟨h.blk' f hx (h.bne h.reads.isMap), h.ends.keep f (by simp [n3]) hi, h.locks.keep f (by simp [n6]) hi, h.words.keep f (by simp [n8]) hi, hm, h.writes.keep f (by simp [Ne.symm n10]) hi, h.nodup⟩
theorem Watch.putWrites {w w' : World} {p : Ptrs} {s : St} (h : Watch w p s) (f : Fr [p.wr] w w') {m : List (((Int × Int) × Int) × List Int)} (hm : CMap w' p.wr accK m) : Watch w' p { s with writes := m } := by
  have hx : p.wr ∈ p.S := by simp [Ptrs.S]
  have hi := h.ints hx
  have nd := h.nodup
  simp only [List.nodup_cons, List.mem_cons, not_or] at nd
  obtain ⟨⟨n1, n2, n3, n4, _⟩, ⟨n5, n6, n7, _⟩, ⟨n8, n9, _⟩, ⟨n10, _⟩, _⟩ := nd
  exact ⟨h.blk' f hx (h.bne h.writes.isMap), h.ends.keep f (by simp [n4]) hi, h.locks.keep f (by simp [n7]) hi, h.words.keep f (by simp [n9]) hi, h.reads.keep f (by simp [n10]) hi, hm, h.nodup⟩

/-! ### End -/
theorem zero_clock (w : World) : (zeroValue 25).run Try.prog w = .ok (.slice none 0 0) w := by kernel_rfl
theorem und_ends : Try.prog.underlying 57 = some (.map 3 25) := by kernel_rfl
theorem und_words : Try.prog.underlying 58 = some (.map 64 25) := by kernel_rfl
theorem und_accs : Try.prog.underlying 59 = some (.map 69 25) := by kernel_rfl

set_option maxHeartbeats 400000 in
theorem end_any (w : World) (p : Ptrs) (s : St) (t : Int) (h : Watch w p s) :
    Calls Try.prog 20 #[.pointer (some ⟨p.b, 0, none⟩), .int .i64 t] w fun e w' => e = .returned (.tuple #[]) ∧ Watch w' p (s.endT t) ∧ Fr p.S w w' := by
  by_cases hb : inB t = true
  · have hs : s.endT t = { s with ends := lput s.ends t (s.th.getD t.toNat []) } := by simp [St.endT, hb]
    rw [hs]
    have hb' := hb
    simp only [inB, Bool.and_eq_true, decide_eq_true_eq] at hb'
    obtain ⟨t, rfl⟩ := Int.eq_ofNat_of_zero_le (show 0 ≤ t by omega)
    simp only [Int.toNat_natCast]
    obtain ⟨v, hcell, hv⟩ := h.thread t (by omega)
    obtain ⟨hcE, _⟩ := h.cells
    obtain ⟨w', hrun, hm, f, _⟩ := CMap.store (w := w.drew) h.drew.ends int_keys und_ends (t : Int) (hv.keep0 (Fr.refl _ _).drew)
    have H3 := hid (h.drew.putEnds f hm)
    have F3 := hid (((Fr.refl p.S w).drew).trans f (by simp [Ptrs.S]))
    have ht : (t : Int) ≤ 12 := by omega
    have ht1 : (1 : Int) ≤ t := by omega
    clear hm f hb hs hb' h hv
    simp only [intK] at hrun
    go_enter Try.func20, Try.ntmps20
    go_wp2_with (go_at_call 33; refine (in_yes _ _ ht1 ht).mono ?_; rintro e w' ⟨rfl, rfl⟩)
    go_region
    go_end0
    exact ⟨rfl, H3.out, F3.out⟩
  · have hs : s.endT t = s := by simp [St.endT, hb]
    rw [hs]
    have hb' : inB t = false := Bool.eq_false_iff.2 hb
    have hc := in_any t w
    rw [hb'] at hc
    have HC := hid hc
    clear hb hb' hs hc
    go_enter Try.func20, Try.ntmps20
    go_wp2_with fail
    refine HC.out.mono ?_
    rintro e w' ⟨rfl, rfl⟩
    go_wp2_with fail
    go_end0
    exact ⟨rfl, h, Fr.refl _ _⟩

/-! ### Begin -/
theorem Watch.join2 {w w' : World} {p : Ptrs} {s : St} (h : Watch w p s) (f : Fr [] w w') (t : Nat) (ht : t < 13) {v : Value} {c : List Int} (hv : Clk w' v c) :
    Watch (w'.setCell ⟨p.b, t, none⟩ v) p { s with th := s.th.set t c } ∧ Fr p.S w (w'.setCell ⟨p.b, t, none⟩ v) :=
  ⟨(h.keep0 f).set t ht hv, (f.sub (S' := p.S) (by simp)).setCell (Or.inl (by simp [Ptrs.S])) _⟩

set_option maxHeartbeats 400000 in
theorem begin_any (w : World) (p : Ptrs) (s : St) (t b : Int) (h : Watch w p s) :
    Calls Try.prog 19 #[.pointer (some ⟨p.b, 0, none⟩), .int .i64 t, .int .i64 b] w fun e w' => e = .returned (.tuple #[]) ∧ Watch w' p (s.begins t b) ∧ Fr p.S w w' := by
  by_cases hb : inB t = true
  · by_cases h0 : b = 0
    · have hs : s.begins t b = s := by simp [St.begins, h0]
      rw [hs]
      subst h0
      have hc := in_any t w
      rw [hb] at hc
      have HC := hid hc
      clear hb hs hc
      go_enter Try.func19, Try.ntmps19
      go_wp2_with fail
      refine HC.out.mono ?_
      rintro e w' ⟨rfl, rfl⟩
      go_wp2_with fail
      refine bodyPost_ret (results_none rfl _ _ _) rfl ?_
      exact ⟨rfl, h, Fr.refl _ _⟩
    · by_cases hb2 : inB b = true
      · have hs : s.begins t b = ({ s with th := s.th.set t.toNat (joinL (s.th.getD t.toNat []) (s.th.getD b.toNat [])) } : St).tick b.toNat := by simp [St.begins, h0, hb, hb2]
        rw [hs]
        simp only [inB, Bool.and_eq_true, decide_eq_true_eq] at hb hb2
        obtain ⟨t, rfl⟩ := Int.eq_ofNat_of_zero_le (show 0 ≤ t by omega)
        obtain ⟨b, rfl⟩ := Int.eq_ofNat_of_zero_le (show 0 ≤ b by omega)
        simp only [Int.toNat_natCast]
        obtain ⟨v, hcell, hv⟩ := h.thread t (by omega)
        obtain ⟨u, hcell2, hu⟩ := h.thread b (by omega)
        have ht : (t : Int) ≤ 12 := by omega
        have ht1 : (1 : Int) ≤ t := by omega
        have hbt : (b : Int) ≤ 12 := by omega
        have hbt1 : (1 : Int) ≤ b := by omega
        have hb0 : ((b : Int) != 0) = true := by simp; omega
        have hb00 : ((b : Int) == 0) = false := by simp; omega
        have hfree := h.free t
        have ht13 : (t : Int) < 13 := by omega
        have hb13 : (b : Int) < 13 := by omega
        have ht0 : (0 : Int) ≤ t := by omega
        have hbz : (0 : Int) ≤ b := by omega
        have hJ := join_any w.drew v u _ _ (hv.keep0 (Fr.refl _ _).drew) (hu.keep0 (Fr.refl _ _).drew)
        have HJ := hid hJ
        have H := hid h
        clear hb hb2 hs h0 hv hu hJ h
        go_enter Try.func19, Try.ntmps19
        go_wp2_with fail
        refine (in_yes _ _ ht1 ht).mono ?_
        rintro e w' ⟨rfl, rfl⟩
        go_wp2_with fail
        refine (in_yes _ _ hbt1 hbt).mono ?_
        rintro e w' ⟨rfl, rfl⟩
        go_wp2_with fail
        go_region_with (go_at_call 11; refine HJ.out.mono ?_; rintro e w1 ⟨r, rfl, hr, f⟩; obtain ⟨g, rfl⟩ := hr.form; have k1 := f.cell hcell (by simp); have k2 := f.cell hcell2 (by simp); have k3 := f.frozen hcell hfree (by simp))
        all_goals
          obtain ⟨hw2, f2⟩ := H.out.drew.join2 f t (by omega) hr.clk
          go_wp2_with fail
          refine (ticks_any _ p _ b (by omega) hw2).mono ?_
          rintro e w2 ⟨rfl, hw3, f3⟩
          go_wp2_with fail
          go_end0
          exact ⟨rfl, hw3, ((Fr.refl p.S w).drew.tr f2).tr f3⟩
      · have hs : s.begins t b = s := by simp [St.begins, hb2]
        rw [hs]
        have hb2' : inB b = false := Bool.eq_false_iff.2 hb2
        have hb0 : (b != 0) = true := by simpa using h0
        have hc := in_any t w
        rw [hb] at hc
        have HC := hid hc
        have hc2 := in_any b w
        rw [hb2'] at hc2
        have HC2 := hid hc2
        clear hb hs hc hc2 hb2 hb2' h0
        go_enter Try.func19, Try.ntmps19
        go_wp2_with fail
        refine HC.out.mono ?_
        rintro e w' ⟨rfl, rfl⟩
        go_wp2_with fail
        refine HC2.out.mono ?_
        rintro e w' ⟨rfl, rfl⟩
        go_wp2_with fail
        refine bodyPost_ret (results_none rfl _ _ _) rfl ?_
        exact ⟨rfl, h, Fr.refl _ _⟩
  · have hs : s.begins t b = s := by simp [St.begins, hb]
    rw [hs]
    have hb' : inB t = false := Bool.eq_false_iff.2 hb
    have hc := in_any t w
    rw [hb'] at hc
    have HC := hid hc
    clear hb hs hc hb'
    go_enter Try.func19, Try.ntmps19
    go_wp2_with fail
    refine HC.out.mono ?_
    rintro e w' ⟨rfl, rfl⟩
    go_wp2_with fail
    refine bodyPost_ret (results_none rfl _ _ _) rfl ?_
    exact ⟨rfl, h, Fr.refl _ _⟩

end Go.Proofs.Ytjkakhjajfpldaa
