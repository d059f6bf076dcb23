/-
  GcCollects's own function value: it keeps who was asked, and tells where edges lead to.
-/
import Derived.Test.YtgakkkifohkikaaRefE
import Derived.Test.YtgakkkifohkikaaGcB
namespace Go.Proofs.Ytgakkkifohkikaa
open Go.RowKit

def collR (fs ts : List Int) (a : Int) : List Int := 0 :: -5 :: edR fs ts a
theorem coll_reach {n : Nat} {L : List Ob} (hr : Rise n 1 L) {roots fs ts : List Int} (x : Int) : Reach L roots (collR fs ts) x ↔ Reach L roots (edR fs ts) x := by
  have hpos : ∀ y, has L y = true → 1 ≤ y := fun y hy => by
    obtain ⟨o, ho, rfl⟩ := List.mem_map.1 (has_mem.1 hy)
    have := (Rise.obs hr o ho).1
    omega
  constructor
  · intro h
    induction h with
    | root h1 h2 => exact .root h1 h2
    | step h1 h2 h3 ih =>
      have := hpos _ h3
      unfold collR at h2
      rcases List.mem_cons.1 h2 with rfl | h2
      · omega
      · rcases List.mem_cons.1 h2 with rfl | h2
        · omega
        · exact .step ih h2 h3
  · intro h
    induction h with
    | root h1 h2 => exact .root h1 h2
    | step h1 h2 h3 ih => exact .step ih (by unfold collR; simp [h2]) h3
theorem edR_len (fs ts : List Int) (a : Int) : (edR fs ts a).length ≤ fs.length := by
  unfold edR
  rw [List.length_map]
  refine Nat.le_trans (List.length_filter_le _ _) ?_
  rw [List.length_zip]
  omega
/-- the edges of the first k -/
theorem edR_take {fs ts : List Int} (hl : fs.length = ts.length) {k : Nat} (hk : k < fs.length) (a : Int) : edR (fs.take (k + 1)) (ts.take (k + 1)) a = edR (fs.take k) (ts.take k) a ++ (if fs.getD k 0 == a then [ts.getD k 0] else []) := by
  have h1 : fs.take (k + 1) = fs.take k ++ [fs.getD k 0] := by
    rw [List.take_succ_eq_append_getElem hk, List.getD, List.getElem?_eq_getElem hk]; rfl
  have h2 : ts.take (k + 1) = ts.take k ++ [ts.getD k 0] := by
    rw [List.take_succ_eq_append_getElem (by omega), List.getD, List.getElem?_eq_getElem (by omega)]; rfl
  unfold edR
  rw [h1, h2, List.zip_append (by rw [List.length_take, List.length_take]; omega), List.filter_append, List.map_append]
  congr 1
  simp only [List.zip_cons_cons, List.zip_nil_left, List.filter_cons, List.filter_nil]
  split <;> simp

/-- where its boxes lie: who was asked (s), from, to -/
structure CoB (ab fb tb : Nat) (vf vt : Value) (fs ts : List Int) (s : List Int) (w : World) (va : Value) : Prop where
  b1 : w.heap[ab]? = some (.cells #[va] 31 (0, 0))
  b2 : w.heap[fb]? = some (.cells #[vf] 31 (0, 0))
  b3 : w.heap[tb]? = some (.cells #[vt] 31 (0, 0))
  r1 : RI w va s
  r2 : RI w vf fs
  r3 : RI w vt ts
  nd : (ab :: fb :: tb :: (fpv va ++ (fpv vf ++ fpv vt))).Nodup
def CoC (ab fb tb : Nat) (vf vt : Value) (fs ts : List Int) (s : List Int) (w : World) (O : List Nat) : Prop := ∃ va, O = ab :: fb :: tb :: (fpv va ++ (fpv vf ++ fpv vt)) ∧ CoB ab fb tb vf vt fs ts s w va
section
variable {ab fb tb : Nat} {vf vt va : Value} {fs ts s : List Int} {w w' : World} {S O : List Nat}
theorem CoB.keep (h : CoB ab fb tb vf vt fs ts s w va) (f : Fr S w w') (hS : ∀ b ∈ ab :: fb :: tb :: (fpv va ++ (fpv vf ++ fpv vt)), b ∉ S) : CoB ab fb tb vf vt fs ts s w' va :=
  ⟨f.obj h.b1 (hS _ (by simp)), f.obj h.b2 (hS _ (by simp)), f.obj h.b3 (hS _ (by simp)), RV.keep h.r1 f (fun b hb => hS b (by simp [hb])), RV.keep h.r2 f (fun b hb => hS b (by simp [hb])), RV.keep h.r3 f (fun b hb => hS b (by simp [hb])), h.nd⟩
theorem CoB.lt (h : CoB ab fb tb vf vt fs ts s w va) : ∀ b ∈ ab :: fb :: tb :: (fpv va ++ (fpv vf ++ fpv vt)), b < w.heap.size := by
  intro b hb
  simp only [List.mem_cons, List.mem_append] at hb
  rcases hb with rfl | rfl | rfl | h1 | h1 | h1
  · exact lt_of_block h.b1
  · exact lt_of_block h.b2
  · exact lt_of_block h.b3
  · exact RV.lt h.r1 b h1
  · exact RV.lt h.r2 b h1
  · exact RV.lt h.r3 b h1
/-- one more was asked -/
theorem CoB.asked {a : Int} {va' : Value} {w1 : World} (h : CoB ab fb tb vf vt fs ts s w va) (f : Fr (fpv va) w w1) (hr : RI w1 va' (s ++ [a])) (hn : ∀ b ∈ fpv va', b ∈ fpv va ∨ w.heap.size ≤ b) :
    CoB ab fb tb vf vt fs ts (s ++ [a]) (w1.setCell ⟨ab, 0, none⟩ va') va' ∧ Fr (ab :: fb :: tb :: (fpv va ++ (fpv vf ++ fpv vt))) w (w1.setCell ⟨ab, 0, none⟩ va') := by
  have hlt := h.lt
  have hnd := h.nd
  simp only [List.nodup_cons, List.nodup_append, List.mem_cons, List.mem_append, not_or] at hnd
  obtain ⟨⟨n1, n2, n3, n4, n5⟩, ⟨n6, n7, n8, n9⟩, ⟨n10, n11, n12⟩, n13, ⟨n14, n15, n16⟩, n17⟩ := hnd
  have hab : ab < w.heap.size := hlt ab (by simp)
  have g : Fr [ab] w1 (w1.setCell ⟨ab, 0, none⟩ va') := (Fr.refl [ab] w1).setCell (.inl (by simp)) _
  have hb1 := f.obj h.b1 n3
  have hav : ab ∉ fpv va' := fun hm => by
    rcases hn ab hm with h1 | h1
    · exact n3 h1
    · omega
  have hold : ∀ b, b < w.heap.size → b ∉ fpv va → b ∉ fpv va' := fun b hb h1 hm => by
    rcases hn b hm with h2 | h2
    · exact h1 h2
    · omega
  refine ⟨⟨heap_setCell_same w1 ab 0 _ _ va' hb1, g.obj (f.obj h.b2 n7) (by simpa using fun e => n1 e.symm), g.obj (f.obj h.b3 n10) (by simpa using fun e => n2 e.symm), RV.keep hr g (fun b hb hm => hav (List.mem_singleton.1 hm ▸ hb)),
    RV.keep (RV.keep h.r2 f (fun b hb hm => n17 b hm b (.inl hb) rfl)) g (fun b hb hm => n4 (List.mem_singleton.1 hm ▸ hb)), RV.keep (RV.keep h.r3 f (fun b hb hm => n17 b hm b (.inr hb) rfl)) g (fun b hb hm => n5 (List.mem_singleton.1 hm ▸ hb)), ?_⟩, ?_⟩
  · simp only [List.nodup_cons, List.nodup_append, List.mem_cons, List.mem_append, not_or]
    have hnv : (fpv va').Nodup := by
      obtain ⟨a', c', e, _⟩ := hr.form
      rw [e]
      cases a' <;> simp [fpv, Value.ownBlock]
    refine ⟨⟨n1, n2, hav, n4, n5⟩, ⟨n6, hold fb (hlt fb (by simp)) n7, n8, n9⟩, ⟨hold tb (hlt tb (by simp)) n10, n11, n12⟩, hnv, ⟨n14, n15, n16⟩, fun x hx y hy e => ?_⟩
    subst e
    rcases hn x hx with h1 | h1
    · exact n17 x h1 x hy rfl
    · have := hlt x (by simp only [List.mem_cons, List.mem_append]; exact .inr (.inr (.inr (.inr hy))))
      omega
  · exact (f.sub (fun b hb => .inl (by simp [hb]))).tr (g.sub (fun b hb => .inl (by simp at hb; simp [hb])))
end

def Co1Post (ab fb tb : Nat) (vf vt va : Value) (fs ts s : List Int) (a : Int) (w : World) (e : Ending) (w' : World) : Prop :=
  ∃ v va', e = .returned v ∧ RI w' v (collR fs ts a) ∧ CoB ab fb tb vf vt fs ts (s ++ [a]) w' va' ∧ Fr (ab :: fb :: tb :: (fpv va ++ (fpv vf ++ fpv vt))) w w' ∧ (∀ b ∈ fpv va', b ∈ fpv va ∨ w.heap.size ≤ b) ∧ ∀ b ∈ fpv v, w.heap.size ≤ b ∧ b ∉ ab :: fb :: tb :: (fpv va' ++ (fpv vf ++ fpv vt))
set_option maxHeartbeats 2000000 in
set_option maxRecDepth 20000 in
theorem coll1_any {ab fb tb : Nat} {vf vt va : Value} {fs ts s : List Int} {w : World} (h : CoB ab fb tb vf vt fs ts s w va) (a : Int) (hs : s.length ≤ 100000) (hl : fs.length = ts.length) (hb : fs.length ≤ 90) :
    Calls Try.prog 38 #[.int .i64 a, .pointer (some ⟨ab, 0, none⟩), .pointer (some ⟨fb, 0, none⟩), .pointer (some ⟨tb, 0, none⟩)] w (Co1Post ab fb tb vf vt va fs ts s a w) := by
  have H := hid h
  obtain ⟨av, cv, rfl, _, _⟩ := h.r1.form
  obtain ⟨af, cf, rfl, _, _⟩ := h.r2.form
  obtain ⟨at', ct, rfl, _, _⟩ := h.r3.form
  obtain ⟨ls, hls⟩ : ∃ m, m = s.length := ⟨_, rfl⟩
  obtain ⟨lf, hlf⟩ : ∃ m, m = fs.length := ⟨_, rfl⟩
  have HLS := hid hls
  have HLF := hid hlf
  have HL := hid hl
  rw [← hl, ← hlf, ← hls] at H ⊢
  rw [← hlf] at hb
  rw [← hls] at hs
  have c1 : w.cell? ⟨ab, 0, none⟩ = some (.slice av ls cv) := by rw [cell_of_row _ _ _ _ _ _ H.out.b1]; rfl
  have HC1 : Hid (∀ o, (w.alloc o).cell? ⟨ab, 0, none⟩ = some (.slice av ls cv)) := hid (fun o => ((Fr.refl [] w).alloc o).cell c1 (by simp))
  have S := hid (fun t => show RI (w.alloc t) (.slice av ls cv) s from RV.keep0 H.out.r1 ((Fr.refl _ _).alloc _))
  have HNA : Hid (ab ∉ fpv (.slice av ls cv)) := hid (by
    have := H.out.nd
    rw [List.nodup_cons] at this
    exact fun hm => this.1 (by simp [hm]))
  clear h hl hls hlf
  go_enter Try.func38, Try.ntmps38
  go_wp2_with (at_builtin; refine wp_append_ri rfl (.tmp 8) (.tmp 10) rfl (.slice av ls cv) (.slice (some ⟨w.heap.size, 0, none⟩) 1 1) s [a] rfl (S.out _) rfl (RI.made (w := w) [a] (by simp)) (by rw [← HLS.out]; simp; omega) ?_; intro a5 c5 w5 r5 f5 n5; rw [← HLS.out] at r5 n5 ⊢; have R5 := hid r5; have F5 := hid f5; have N5 := hid n5; have q1 := f5.cell (HC1.out _) HNA.out; have q2 : w5.frozen? ⟨ab, 0, none⟩ = false := frozen_of_row _ _ _ _ _ (f5.obj (((Fr.refl [] w).alloc _).obj H.out.b1 (by simp)) HNA.out); clear r5 f5 n5)
  obtain ⟨w4, hw4⟩ : ∃ w4, w4 = w5.setCell ⟨ab, 0, none⟩ (.slice a5 (ls + 1) c5) := ⟨_, rfl⟩
  have hfa : Fr (fpv (.slice av ls cv)) w w5 := Fr.tr ((Fr.refl _ _).alloc _) F5.out
  have hnn : ∀ b ∈ fpv (.slice a5 (ls + 1) c5), b ∈ fpv (.slice av ls cv) ∨ w.heap.size ≤ b := fun b hb => by
    rcases N5.out b hb with h1 | h1
    · exact .inl h1
    · rw [World.size_alloc] at h1; exact .inr (by omega)
  have hco := CoB.asked H.out hfa R5.out hnn
  have hco' : CoB ab fb tb (.slice af lf cf) (.slice at' lf ct) fs ts (s ++ [a]) w4 (.slice a5 (ls + 1) c5) ∧ Fr (ab :: fb :: tb :: (fpv (.slice av ls cv) ++ (fpv (.slice af lf cf) ++ fpv (.slice at' lf ct)))) w w4 := by rw [hw4]; exact hco
  have hsz : w5.heap.size = w4.heap.size := by rw [hw4]; simp
  rw [← hw4, hsz]
  have HCO := hid hco'
  have HNN := hid hnn
  have HLT := hid hco'.1.lt
  clear hw4 hfa hnn hco hco' q1 q2 hsz
  go_loopw [6, 7] (fun v i wr => ∃ k : Nat, i = .int .i64 k ∧ k ≤ lf ∧ Hid (RI wr v (0 :: -5 :: edR (fs.take k) (ts.take k) a) ∧ (∀ b ∈ fpv v, w4.heap.size ≤ b) ∧ Fr [] w4 wr)) (fun _ i _ => lf - (intOf i).toNat)
  case atStart => exact ⟨0, rfl, by omega, hid ⟨RI.made (w := w4) [0, -5] (by simp), fun b hb => by simp [fpv, Value.ownBlock] at hb; omega, (Fr.refl _ _).alloc _⟩⟩
  case round =>
    obtain ⟨k, rfl, hk, hr⟩ := hrel
    have HR := hid hr.out
    clear hr
    have HB := hid (HCO.out.1.keep HR.out.2.2 (by simp))
    have d2 : wr.cell? ⟨fb, 0, none⟩ = some (.slice af lf cf) := by rw [cell_of_row _ _ _ _ _ _ HB.out.b2]; rfl
    have d3 : wr.cell? ⟨tb, 0, none⟩ = some (.slice at' lf ct) := by rw [cell_of_row _ _ _ _ _ _ HB.out.b3]; rfl
    by_cases hlt : k < lf
    · have hlt2 : (k : Int) < lf := by omega
      have hkb : (k : Int) ≤ 90 := by omega
      have hkf : k < fs.length := by rw [← HLF.out]; exact hlt
      obtain ⟨bf, c, e, hcf⟩ := RI.cell HB.out.r2 k hkf
      rw [← HLF.out] at e
      injection e with e1 e2 e3
      subst e1
      clear e2 e3
      obtain ⟨bt, c', e, hct⟩ := RI.cell HB.out.r3 k (by rw [← HL.out]; exact hkf)
      rw [← HL.out, ← HLF.out] at e
      injection e with e1 e2 e3
      subst e1
      clear e2 e3
      have hed := edR_take HL.out hkf a
      generalize fs.getD k 0 = x at hcf hed
      generalize ts.getD k 0 = y at hct hed
      have HED := hid hed
      obtain ⟨ao, co, hvo, _, _⟩ := HR.out.1.form
      obtain ⟨lo, hlo⟩ : ∃ m, m = (0 :: -5 :: edR (fs.take k) (ts.take k) a).length := ⟨_, rfl⟩
      have HLO := hid hlo
      have hlob : lo ≤ 100 := by
        have := edR_len (fs.take k) (ts.take k) a
        rw [List.length_take] at this
        rw [hlo]
        simp only [List.length_cons]
        omega
      rw [← hlo] at hvo
      subst hvo
      have S2 := hid (fun t => show RI (wr.alloc t) (.slice ao lo co) (0 :: -5 :: edR (fs.take k) (ts.take k) a) from RV.keep0 HR.out.1 ((Fr.refl _ _).alloc _))
      clear hlt hkf hed hlo
      by_cases hx : x = a
      · have hb1 : (x == a) = true := by simpa using hx
        have HE : Hid ((0 :: -5 :: edR (fs.take (k + 1)) (ts.take (k + 1)) a) = (0 :: -5 :: edR (fs.take k) (ts.take k) a) ++ [y]) := hid (by rw [HED.out, hb1, if_pos rfl]; rfl)
        clear hx
        go_wp2_with (at_builtin; refine wp_append_ri rfl (.tmp 25) (.tmp 30) rfl (.slice ao lo co) (.slice (some ⟨wr.heap.size, 0, none⟩) 1 1) (0 :: -5 :: edR (fs.take k) (ts.take k) a) [y] rfl (S2.out _) rfl (RI.made (w := wr) [y] (by simp)) (by rw [← HLO.out]; simp; omega) ?_; intro a6 c6 w6 r6 f6 n6; rw [← HLO.out] at r6 n6 ⊢; have R6 := hid r6; have F6 := hid f6; have N6 := hid n6; clear r6 f6 n6)
        go_roundw
        case rel =>
          refine ⟨k + 1, by go_num, by omega, hid ⟨by rw [HE.out]; exact R6.out, fun b hb => ?_, ?_⟩⟩
          · rcases N6.out b hb with h1 | h1
            · exact HR.out.2.1 b h1
            · rw [World.size_alloc] at h1; have := HR.out.2.2.size; omega
          · exact (HR.out.2.2.alloc _).trans F6.out (fun b hb => .inr (HR.out.2.1 b hb))
        case measure => simp [intOf]; omega
      · have hb1 : (x == a) = false := by simpa using hx
        have HE : Hid ((0 :: -5 :: edR (fs.take (k + 1)) (ts.take (k + 1)) a) = (0 :: -5 :: edR (fs.take k) (ts.take k) a)) := hid (by rw [HED.out, hb1, if_neg (by simp), List.append_nil])
        clear hx
        go_wp2_with fail
        go_roundw
        case rel => exact ⟨k + 1, by go_num, by omega, hid (by rw [HE.out]; exact HR.out)⟩
        case measure => simp [intOf]; omega
    · obtain rfl : k = lf := by omega
      have hlt2 : ¬ (k : Int) < k := by omega
      have HP : Hid (Co1Post ab fb tb (.slice af k cf) (.slice at' k ct) (.slice av ls cv) fs ts s a w (.returned u6) wr) := hid (by
        have h1 := HR.out.1
        rw [HLF.out, List.take_length, HL.out, List.take_length] at h1
        refine ⟨u6, .slice a5 (ls + 1) c5, rfl, h1, HB.out, HCO.out.2.tr0 HR.out.2.2, HNN.out, fun b hb => ⟨?_, fun hm => ?_⟩⟩
        · exact Nat.le_trans HCO.out.2.size (HR.out.2.1 b hb)
        · have := HLT.out b hm
          have := HR.out.2.1 b hb
          omega)
      clear hlt
      go_wp2_with fail
      go_ret
      exact HP.out

theorem coll_clo {ab fb tb : Nat} {vf vt : Value} {fs ts : List Int} (L : List Ob) (hl : fs.length = ts.length) (hb : fs.length ≤ 90) : Clo 38 #[.pointer (some ⟨ab, 0, none⟩), .pointer (some ⟨fb, 0, none⟩), .pointer (some ⟨tb, 0, none⟩)] L (collR fs ts) (CoC ab fb tb vf vt fs ts) where
  en := enters_of Try.func38 (by kernel_rfl) rfl
  keep := fun {s w w' S O} h f hS => by
    obtain ⟨va, rfl, h⟩ := h
    exact ⟨va, rfl, h.keep f hS⟩
  lt := fun {s w O} h => by
    obtain ⟨va, rfl, h⟩ := h
    exact h.lt
  call := fun {s w O} a _ hs hc => by
    obtain ⟨va, rfl, h⟩ := hc
    refine (coll1_any h a hs hl hb).mono ?_
    rintro e w' ⟨v, va', rfl, h1, h2, h3, h4, h5⟩
    refine ⟨v, _, rfl, h1, ⟨va', rfl, h2⟩, h3, fun b hb => ?_, h5⟩
    simp only [List.mem_cons, List.mem_append] at hb ⊢
    rcases hb with rfl | rfl | rfl | h6 | h6
    · exact .inl (.inl rfl)
    · exact .inl (.inr (.inl rfl))
    · exact .inl (.inr (.inr (.inl rfl)))
    · rcases h4 b h6 with h7 | h7
      · exact .inl (.inr (.inr (.inr (.inl h7))))
      · exact .inr h7
    · exact .inl (.inr (.inr (.inr (.inr h6))))

end Go.Proofs.Ytgakkkifohkikaa
