/-
  Package lex: All.
-/
import Derived.Test.YtlkkekjbcaabcaaLexP
import Derived.Maps.AppendAt
import Derived.Lib.SliceRun
namespace Go.Proofs.Ytlkkekjbcaabcaa
open Go.RowKit

/-- a slice of tokens that owns its row -/
def Toks (w : World) (v : Value) (ts : List Tok) : Prop := w.ownsRow 0 31 5 v ts.length (ts.flatMap (fun t => t.cells.toList))
theorem Toks.nil (w : World) : Toks w (.slice none 0 0) [] := ⟨by simp, .inl ⟨rfl, rfl⟩⟩
theorem Toks.keep {S : List Nat} {w w' : World} {v : Value} {ts : List Tok} (h : Toks w v ts) (f : Fr S w w') (hn : ∀ b ∈ fpv v, b ∉ S) : Toks w' v ts := by
  obtain ⟨h1, h2⟩ := h
  refine ⟨h1, ?_⟩
  rcases h2 with h2 | ⟨b, cap, cur, rfl, hb, hh, r⟩
  · exact .inl h2
  · exact .inr ⟨b, cap, cur, rfl, hb, f.obj hh (hn b (by simp [fpv, Value.ownBlock])), r⟩
theorem Toks.keep0 {w w' : World} {v : Value} {ts : List Tok} (h : Toks w v ts) (f : Fr [] w w') : Toks w' v ts := h.keep f (by simp)
theorem Toks.form {w : World} {v : Value} {ts : List Tok} (h : Toks w v ts) : ∃ a cap, v = .slice a ts.length cap ∧ ts.length ≤ cap ∧ cap ≤ maxLen := by
  obtain ⟨_, h2⟩ := h
  rcases h2 with ⟨rfl, h3⟩ | ⟨b, cap, cur, rfl, hb, hh, h4, h5, h6⟩
  · exact ⟨none, 0, by rw [h3], by omega, by unfold maxLen; omega⟩
  · exact ⟨_, cap, rfl, h4, h5⟩
theorem Toks.lt {w : World} {v : Value} {ts : List Tok} (h : Toks w v ts) : ∀ b ∈ fpv v, b < w.heap.size := by
  intro b hb
  rw [mem_fpv] at hb
  obtain ⟨_, h2⟩ := h
  rcases h2 with ⟨rfl, _⟩ | ⟨b', cap, cur, rfl, _, hh, _⟩
  · cases hb
  · cases hb; exact lt_of_block hh
theorem info_tok : (Try.prog.info? 31).map (fun i => (i.zero, i.size, i.bytes)) = some (some (.agg zc), 5, 56) := by kernel_rfl
theorem und_toks : Try.prog.underlying 25 = some (.slice 31) := by kernel_rfl
theorem wpList_append_tok {w : World} {ops : Array Oper} {rest : List Oper} {o : Oper} {a : Act} {Q : Exit → Act → World → Prop} (hgd : o.guard = none) (s x : Operand)
    (ho : o.op = .call { callee := .builtin .append, args := #[s, x], argTypes := #[25, 25] })
    (v : Value) (ts : List Tok) (hs : a.eval s = v) (hown : Toks w v ts) (g : Nat) (y : Tok) (hx : a.eval x = .slice (some ⟨g, 0, none⟩) 1 1) (hnew : w.heap[g]? = some (.cells y.cells 31 (0, 0))) (hlen : ts.length ≤ 1000000)
    (h : ∀ v' w', Toks w' v' (ts ++ [y]) → Fr (fpv v) w w' → (∀ b ∈ fpv v', b ∈ fpv v ∨ w.heap.size ≤ b) → wpList Try.prog ops Q rest (a.put o.dst v') w') :
    wpList Try.prog ops Q (o :: rest) a w := by
  obtain ⟨i0, hi, hz0, hz1, hz2⟩ := info_parts info_tok
  refine wpList_append_own_at _ hgd s x 25 ho 0 31 i0 (.agg zc) 5 56 und_toks hi hz0 hz1 hz2 rfl (by decide) v _ _ hs hown ⟨g, 0, none⟩ 1 1 y.cells.toList hx rfl ?_ ?_ (by unfold maxLen; omega) (by omega) (by omega) ?_
  · intro j u hu
    have : (⟨g, 0, none⟩ : Addr).add j = ⟨g, j, none⟩ := by
      cases j <;> simp [Addr.add]
    rw [this, cell_of_row _ _ _ _ _ _ hnew]
    rw [Array.getElem?_toList] at hu
    exact hu
  · intro u hu
    simp only [Tok.cells, List.mem_cons, List.not_mem_nil, or_false] at hu
    rcases hu with rfl | rfl | rfl | rfl | rfl <;> rfl
  · intro v' w' h1 h2 _ h4
    refine h v' w' ?_ (grownFr h2) (fun b hb => ?_)
    · unfold Toks
      rw [List.length_append, List.flatMap_append]
      simpa using h1
    · rw [mem_fpv] at hb
      rcases h4 with h4 | h4
      · exact .inl (mem_fpv.2 (by rw [← h4]; exact hb))
      · right; rw [h4] at hb; cases hb; exact Nat.le_refl _

def AllPost (w : World) (r : List Tok × Int × Int) (e : Ending) (w' : World) : Prop :=
  ∃ v, e = .returned (.tuple #[v, .int .i64 r.2.1, .int .i64 r.2.2]) ∧ Toks w' v r.1 ∧ (∀ b ∈ fpv v, w.heap.size ≤ b) ∧ Fr [] w w'
theorem size_drop (s : ByteArray) (a : Nat) : (s.extract a s.size).size = s.size - a := size_ext s a
/-- the state at the label -/
structure FRel (w wr : World) (v : Value) (s : ByteArray) (m at0 : Nat) (acc : List Tok) : Prop where
  toks : Toks wr v acc
  bl : ∀ b ∈ fpv v, w.heap.size ≤ b
  fr : Fr [] w wr
  res : lexAll s.data.toList = behind acc (lexR (m + 1) at0 (s.data.toList.drop at0))
  le : at0 ≤ s.size
  m : s.size ≤ m + at0
  al : acc.length ≤ at0

set_option maxRecDepth 20000 in
set_option maxHeartbeats 4000000 in
theorem all_any (s : ByteArray) (hs : s.size ≤ 1000000) (w : World) : Calls Try.prog 10 #[.string s] w (AllPost w (lexAll s.data.toList)) := by
  have hsc := run_store_complex
  by_cases hbig : 8000 < s.size
  · have e : lexAll s.data.toList = ([], 0, 32) := by unfold lexAll; rw [if_pos (by rw [len_eq]; exact hbig)]
    rw [e]
    have hb : (8000 : Int) < s.size := by omega
    clear e
    go_enter Try.func10, Try.ntmps10
    go_wp2_with fail
    refine wp_scope_L 0 (fun _ _ _ => False) rfl (fun _ _ _ h => h.elim) ?_
    intro hp
    go_wp2_with fail
    simp only [Exit.jump]
    go_ret3
    exact ⟨_, rfl, Toks.nil _, by simp [fpv, Value.ownBlock], Fr.refl _ _⟩
  · have hb : ¬ (8000 : Int) < s.size := by omega
    have hs8 : s.size ≤ 8000 := by omega
    have hL := behind_lexAll s.data.toList (by rw [len_eq]; exact hbig)
    have HL := hid hL
    obtain ⟨r, hr⟩ : ∃ r, r = lexAll s.data.toList := ⟨_, rfl⟩
    rw [← hr]
    have HR := hid hr
    clear hr hL hbig hs
    go_enter Try.func10, Try.ntmps10
    go_wp2_with fail
    clear hb
    refine wp_scope_L 0 (fun m a' w' => ∃ (k : Nat) (v : Value) (acc : List Tok) (u7 u8 u9 u10 u11 u12 u13 u14 u15 u16 u17 u18 u19 u20 u21 u22 u23 u24 u25 u26 u27 u28 u29 u30 u31 u32 u33 u34 u35 u36 u37 u38 u39 u40 u41 u42 u43 u44 u45 u46 u47 u48 : Value), a' = { tmps := #[.string s, undef, .slice none 0 0, .int .i64 0, .int .i64 0, v, .int .i64 k, u7, u8, u9, u10, u11, u12, u13, u14, u15, u16, u17, u18, u19, u20, u21, u22, u23, u24, u25, u26, u27, u28, u29, u30, u31, u32, u33, u34, u35, u36, u37, u38, u39, u40, u41, u42, u43, u44, u45, u46, u47, u48], defers := [] } ∧ Hid (FRel w w' v s m k acc)) rfl ?_ ?_
    · rintro m a' wk ⟨k, v, acc, u7, u8, u9, u10, u11, u12, u13, u14, u15, u16, u17, u18, u19, u20, u21, u22, u23, u24, u25, u26, u27, u28, u29, u30, u31, u32, u33, u34, u35, u36, u37, u38, u39, u40, u41, u42, u43, u44, u45, u46, u47, u48, rfl, hf⟩
      have hk := hf.out.le
      obtain ⟨b, hb⟩ : ∃ b, b = blankLen (s.data.toList.drop k) := ⟨_, rfl⟩
      have hbl := blankLen_le (s.data.toList.drop k)
      rw [← hb, List.length_drop, len_eq] at hbl
      have c1 := blank_any (s.extract k s.size) (by rw [size_ext]; omega)
      rw [ext_drop, ← hb] at c1
      have C1 := hid c1
      have HB := hid hb
      clear c1 hb
      go_wp2_with fail
      refine (C1.out _).mono ?_
      rintro e w2 ⟨rfl, rfl⟩
      by_cases hend : k + b = s.size
      · have he : ((k : Int) + b == s.size) = true := by
          have : (k : Int) + b = s.size := by omega
          simpa using this
        have hdr : (s.data.toList.drop k).drop (blankLen (s.data.toList.drop k)) = [] := by
          rw [← HB.out, List.drop_drop, List.drop_eq_nil_iff, len_eq]; omega
        have hres := hf.out.res
        rw [lexR_end hdr, ← HB.out] at hres
        have HRES := hid hres
        have HAL := hid (show acc.length ≤ 1000000 by have := hf.out.al; omega)
        obtain ⟨av, cv, hv, _, _⟩ := hf.out.toks.form
        subst hv
        clear hdr hres hend
        go_wp2_with (at_builtin; refine wpList_append_tok rfl _ _ rfl (.slice av acc.length cv) acc rfl (hf.out.toks.keep0 ((Fr.refl _ _).alloc _)) wk.heap.size (endTok (k + b : Nat)) rfl (heap_alloc_new wk _) HAL.out ?_; intro v' w3 q3 f3 b3; have Q3 := hid q3; have F3 := hid f3; have B3 := hid b3; clear q3 f3 b3)
        simp only [Exit.jump]
        go_ret3
        refine ⟨v', ?_, ?_, ?_, ?_⟩
        · rw [HR.out, HRES.out]; rfl
        · rw [HR.out, HRES.out]; exact Q3.out
        · intro x hx
          rcases B3.out x hx with h | h
          · exact hf.out.bl x h
          · have := hf.out.fr.size; simp at h; omega
        · exact (hf.out.fr.alloc _).trans F3.out (fun x hx => .inr (hf.out.bl x hx))
      · have he : ((k : Int) + b == s.size) = false := by
          have : ¬ (k : Int) + b = s.size := by omega
          simpa using this
        have hsz : (s.extract (k + b) s.size).size = s.size - (k + b) := size_ext s (k + b)
        have c2 := token_any (s.extract (k + b) s.size) (by rw [hsz]; omega) (by rw [hsz]; omega)
        have hdd : s.data.toList.drop (k + b) = (s.data.toList.drop k).drop (blankLen (s.data.toList.drop k)) := by rw [← HB.out, List.drop_drop]
        have hne : (s.data.toList.drop k).drop (blankLen (s.data.toList.drop k)) ≠ [] := by
          rw [← hdd]
          intro h
          rw [List.drop_eq_nil_iff, len_eq] at h
          omega
        rw [ext_drop, hdd] at c2
        obtain ⟨⟨⟨tk, ta, tx, ti, tr, tm⟩, er⟩, hq⟩ : ∃ q, q = tokenOf ((s.data.toList.drop k).drop (blankLen (s.data.toList.drop k))) := ⟨_, rfl⟩
        rw [← hq] at c2
        have C2 := hid c2
        have HQ := hid hq
        have HNE := hid hne
        have HDD := hid hdd
        have hkb : k + b < s.size := by omega
        clear c2 hq hne hdd hsz hend
        go_wp2_with fail
        refine (C2.out _).mono ?_
        rintro e w2 ⟨rfl, f2⟩
        have F2 := hid f2
        simp only [Tok.val, Tok.cells]
        clear f2
        by_cases her : er = 0
        · subst her
          have hlen := tokenOf_len HNE.out (by rw [← HQ.out])
          rw [← HQ.out] at hlen
          simp only [] at hlen
          rw [← HDD.out, List.length_drop, len_eq] at hlen
          obtain ⟨hl1, hl2⟩ := hlen
          have hbs := bs_size tx
          have HAL := hid (show acc.length ≤ 1000000 by have := hf.out.al; omega)
          obtain ⟨av, cv, hv, _, _⟩ := hf.out.toks.form
          subst hv
          have HTK := hid ((hf.out.toks.keep0 F2.out))
          have HLEN := hid hl1
          have HFC := hid hf.out
          obtain ⟨yc, hyc⟩ : ∃ yc : Array Value, yc = #[.int .i64 tk, .int .i64 ((k : Int) + b), .string (bs tx), .int .i64 ti, .complex .f64 tr tm] := ⟨_, rfl⟩
          have hnew := heap_alloc_new (w2.alloc (.cells yc 31)) (.cells yc 31)
          rw [World.size_alloc, hyc] at hnew
          have HNEW := hid hnew
          have hc2 := ((Fr.refl [] (w2.alloc (.cells yc 31))).alloc (.cells yc 31)).obj (heap_alloc_new w2 (.cells yc 31)) (by simp)
          rw [hyc] at hc2
          have HC2 := hid (five hc2).2.2.1
          have HNF := hid (show w2.heap.size ∉ fpv (.slice av acc.length cv) from fun h => by have := HTK.out.lt _ h; omega)
          clear hnew hyc hl1 hf hc2
          go_wp2_with (at_builtin; refine wpList_append_tok rfl _ _ rfl (.slice av acc.length cv) acc rfl (HTK.out.keep0 (((Fr.refl _ _).alloc _).alloc _)) (w2.heap.size + 1) ⟨tk, (k : Int) + b, tx, ti, tr, tm⟩ rfl HNEW.out HAL.out ?_; intro v' w3 q3 f3 b3; have Q3 := hid q3; have F3 := hid f3; have B3 := hid b3; have k2 := f3.cell HC2.out HNF.out; clear q3 f3 b3)
          go_step3
          have HBL : ∀ x ∈ fpv v', w.heap.size ≤ x := fun x hx => by
            rcases B3.out x hx with h | h
            · exact HFC.out.bl x h
            · have h1 := HFC.out.fr.size
              have h2 := F2.out.size
              rw [World.size_alloc, World.size_alloc] at h
              omega
          refine ⟨rfl, m - 1, ?_, k + b + tx.length, v', acc ++ [⟨tk, (k : Int) + b, tx, ti, tr, tm⟩], _, _, _, _, _, _, _, _, _, _, _, _, _, _, _, _, _, _, _, _, _, _, _, _, _, _, _, _, _, _, _, _, _, _, _, _, _, _, _, _, _, _, rfl, ⟨Q3.out, HBL, ?_, ?_, ?_, ?_, ?_⟩⟩
          · have := HFC.out.m; omega
          · exact (((HFC.out.fr.tr F2.out).alloc _).alloc _).trans F3.out (fun x hx => .inr (HFC.out.bl x hx))
          · have hres := HFC.out.res
            rw [lexR_step acc HNE.out HQ.out.symm, ← HB.out] at hres
            have hm : m - 1 + 1 = m := by have := HFC.out.m; omega
            rw [hm, hres, List.drop_drop, List.drop_drop, Nat.add_assoc]
            rfl
          · omega
          · have := HFC.out.m; have := HLEN.out; omega
          · have := HFC.out.al; have := HLEN.out; rw [List.length_append]; simp only [List.length_singleton]; omega
        · have hne0 : (er != 0) = true := by simpa using her
          have HE := hid her
          clear her
          go_wp2_with fail
          simp only [Exit.jump]
          go_ret3
          have hres := hf.out.res
          rw [lexR_err HNE.out (by rw [← HQ.out]) HE.out, ← HB.out] at hres
          refine ⟨.slice none 0 0, ?_, ?_, ?_, ?_⟩
          · rw [HR.out, hres]; unfold behind; rw [if_pos HE.out]; rfl
          · rw [HR.out, hres]; unfold behind; rw [if_pos HE.out]; exact Toks.nil _
          · simp [fpv, Value.ownBlock]
          · exact (hf.out.fr.tr F2.out).alloc _
    · intro hp'
      go_wp2_with fail
      rename_i K hK
      go_step3
      exact hK _ _ (hp' s.size _ _ ⟨0, _, [], _, _, _, _, _, _, _, _, _, _, _, _, _, _, _, _, _, _, _, _, _, _, _, _, _, _, _, _, _, _, _, _, _, _, _, _, _, _, _, _, _, _, rfl, ⟨Toks.nil _, by simp [fpv, Value.ownBlock], Fr.refl _ _, by rw [← HL.out, len_eq]; rfl, Nat.zero_le _, by omega, by simp⟩⟩)

end Go.Proofs.Ytlkkekjbcaabcaa
