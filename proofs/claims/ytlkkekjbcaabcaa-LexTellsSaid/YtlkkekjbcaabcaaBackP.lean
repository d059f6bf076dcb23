/-
  LexBack: what is printed has the same tokens. No program in sight.
-/
import Derived.Test.YtlkkekjbcaabcaaNoteP
import Derived.Test.YtlkkekjbcaabcaaNumP
namespace Go.Proofs.Ytlkkekjbcaabcaa

/-- what may stand behind a printed token -/
def Beh (z : List UInt8) : Prop := z = [] ∨ ∃ r, z = 32 :: r
theorem beh_p {p : UInt8 → Bool} (hp : p 32 = false) {z : List UInt8} (h : Beh z) : z = [] ∨ ∃ x r, z = x :: r ∧ p x = false := by
  rcases h with h | ⟨r, h⟩
  · exact .inl h
  · exact .inr ⟨32, r, h, hp⟩
theorem beh_rest {z : List UInt8} (h : Beh z) (x : List UInt8) : restName (x ++ z) x.length = false := by
  unfold restName
  rcases h with rfl | ⟨r, rfl⟩
  · simp
  · simp [List.getD]; rfl
theorem tw_all (p : UInt8 → Bool) (l : List UInt8) : ∀ b ∈ l.takeWhile p, p b = true := by
  induction l with
  | nil => simp
  | cons x r ih =>
    intro b hb
    cases hx : p x with
    | false => rw [List.takeWhile_cons_of_neg (by simp [hx])] at hb; cases hb
    | true =>
      rw [List.takeWhile_cons_of_pos hx] at hb
      rcases List.mem_cons.1 hb with rfl | hb
      · exact hx
      · exact ih b hb
theorem take_all (p : UInt8 → Bool) (l : List UInt8) : ∀ b ∈ l.take (runLen p l), p b = true := by
  intro b hb
  unfold runLen at hb
  have h : l.take (l.takeWhile p).length = l.takeWhile p := List.prefix_iff_eq_take.1 (List.takeWhile_prefix p) |>.symm
  rw [h] at hb
  exact tw_all p l b hb
theorem numTok_stable {l z : List UInt8} {t : Tok} (ht : numTok l = (t, 0)) (hz : Beh z) : numTok (t.text ++ z) = (t, 0) := by
  have hle := runLen_le isDigit l
  have hall := take_all isDigit l
  unfold numTok at ht
  simp only [] at ht
  by_cases c1 : 18 < runLen isDigit l
  · rw [if_pos c1] at ht; simp at ht
  rw [if_neg c1] at ht
  obtain ⟨d, hd⟩ : ∃ d, d = l.take (runLen isDigit l) := ⟨_, rfl⟩
  have hdl : d.length = runLen isDigit l := by rw [hd, List.length_take]; omega
  rw [← hd] at hall
  cases hci : isCI l (runLen isDigit l) with
  | false =>
    rw [hci, if_neg (by simp)] at ht
    cases hr : restName l (runLen isDigit l) with
    | true => rw [hr, if_pos rfl] at ht; simp at ht
    | false =>
      rw [hr, if_neg (by simp), ← hd] at ht
      simp only [Prod.mk.injEq, and_true] at ht
      subst ht
      show numTok (d ++ z) = _
      have h1 := runLen_prefix d z hall (beh_p (by rfl) hz)
      have h2 : isCI (d ++ z) d.length = false := by
        unfold isCI
        rcases hz with rfl | ⟨r, rfl⟩
        · simp
        · simp [List.getD]
      unfold numTok
      simp only [h1]
      rw [if_neg (by omega), h2, if_neg (by simp), beh_rest hz, if_neg (by simp), List.take_left]
  | true =>
    rw [hci, if_pos rfl] at ht
    by_cases c2 : 15 < runLen isDigit l
    · rw [if_pos c2] at ht; simp at ht
    rw [if_neg c2] at ht
    cases hr : restName l (runLen isDigit l + 1) with
    | true => rw [hr, if_pos rfl] at ht; simp at ht
    | false =>
      rw [hr, if_neg (by simp)] at ht
      have hlt : runLen isDigit l < l.length := by
        unfold isCI at hci
        simp only [Bool.and_eq_true, decide_eq_true_eq] at hci
        exact hci.1
      have hts := take_snoc l (runLen isDigit l) hlt
      rw [← hd] at hts
      obtain ⟨c, hc⟩ : ∃ c, c = l.getD (runLen isDigit l) 0 := ⟨_, rfl⟩
      rw [← hc] at hts ht
      have hcc : c = 99 ∨ c = 105 := by
        unfold isCI at hci
        rw [← hc] at hci
        simp only [Bool.and_eq_true, Bool.or_eq_true, beq_iff_eq] at hci
        exact hci.2
      have htx : t.text = d ++ [c] := by
        have := congrArg (fun q : Tok × Int => q.1.text) ht
        simp only [] at this
        rw [← this, ← hts]
        split <;> rfl
      rw [htx]
      have hcd : isDigit c = false := by rcases hcc with rfl | rfl <;> rfl
      have h1 : runLen isDigit (d ++ [c] ++ z) = d.length := by
        rw [List.append_assoc]
        exact runLen_prefix d ([c] ++ z) hall (.inr ⟨c, z, rfl, hcd⟩)
      have h2 : isCI (d ++ [c] ++ z) d.length = true := by
        unfold isCI
        rcases hcc with rfl | rfl <;> simp [List.getD]
      have h3 : restName (d ++ [c] ++ z) (d.length + 1) = false := by
        have := beh_rest hz (d ++ [c])
        simpa using this
      have h4 : (d ++ [c] ++ z).getD d.length 0 = c := by simp [List.getD]
      have h5 : (d ++ [c] ++ z).take (d.length + 1) = d ++ [c] := List.take_left' (by simp)
      have h6 : (d ++ [c] ++ z).take d.length = d := by rw [List.append_assoc]; exact List.take_left
      unfold numTok
      simp only [h1]
      rw [if_neg (by omega), h2, if_pos rfl, if_neg (by omega), h3, if_neg (by simp), h4, h5, h6]
      rw [hts, ← hd] at ht
      exact ht

/-- a token that is read again where it stands alone, and ahead of a blank -/
structure Good (t : Tok) : Prop where
  again : ∀ z, Beh z → tokenOf (t.text ++ z) = ({ t with at' := 0 }, 0)
  blank : ∀ z, Beh z → blankLen (t.text ++ z) = 0
  pos : 1 ≤ t.text.length
  kind : t.kind ≠ 6
theorem blank_of {c : UInt8} {r z : List UInt8} (h1 : isBlank c = false) (h2 : c = 47 → r = []) (hz : Beh z) : blankLen (c :: r ++ z) = 0 := by
  have hs : blankStep (c :: r ++ z) = 0 := by
    unfold blankStep
    rw [List.cons_append]
    simp only [runLen_cons_neg h1, List.drop_zero]
    rw [if_neg]
    intro hn
    unfold notes Lib.hasPrefix at hn
    have hp := List.isPrefixOf_iff_prefix.1 hn
    obtain ⟨t, ht⟩ := hp
    simp only [List.cons_append, List.nil_append, List.cons.injEq] at ht
    obtain ⟨e1, e2⟩ := ht
    have hr := h2 e1.symm
    subst hr
    rcases hz with rfl | ⟨r, rfl⟩
    · cases e2
    · simp at e2
  rw [blankLen_eq, hs, if_pos rfl]

theorem kinds_apart (c : UInt8) : (isDigit c = true → isBlank c = false ∧ c ≠ 47 ∧ isLetter c = false) ∧ (isLetter c = true → isBlank c = false ∧ c ≠ 47 ∧ isDigit c = false) := by
  have h47 : c = 47 → c.toNat = 47 := fun e => by rw [e]; rfl
  unfold isDigit isBlank isLetter
  constructor
  · intro h
    simp only [Bool.and_eq_true, decide_eq_true_eq] at h
    refine ⟨by simp; omega, fun e => by have := h47 e; omega, by simp; omega⟩
  · intro h
    simp only [Bool.and_eq_true, Bool.or_eq_true, decide_eq_true_eq, beq_iff_eq] at h
    refine ⟨by simp; omega, fun e => by have := h47 e; omega, by simp; omega⟩
theorem sign_good : ∀ x, (x = [61, 61] ∨ x = [33, 61] ∨ ∃ c ∈ signs, x = [c]) → (∀ z, Beh z → tokenOf (x ++ z) = (⟨5, 0, x, 0, 0, 0⟩, 0)) ∧ (∀ z, Beh z → blankLen (x ++ z) = 0) := by
  intro x hx
  constructor
  · intro z hz
    rcases hx with rfl | rfl | ⟨c, hc, rfl⟩
    · rfl
    · rfl
    · simp only [signs, List.mem_cons, List.not_mem_nil, or_false] at hc
      rcases hz with rfl | ⟨r, rfl⟩ <;> rcases hc with rfl | rfl | rfl | rfl | rfl | rfl | rfl | rfl | rfl | rfl | rfl | rfl | rfl | rfl | rfl | rfl | rfl
      all_goals rfl
  · intro z hz
    rcases hx with rfl | rfl | ⟨c, hc, rfl⟩
    · exact blank_of (by rfl) (by decide) hz
    · exact blank_of (by rfl) (by decide) hz
    · refine blank_of ?_ (fun _ => rfl) hz
      simp only [signs, List.mem_cons, List.not_mem_nil, or_false] at hc
      rcases hc with rfl | rfl | rfl | rfl | rfl | rfl | rfl | rfl | rfl | rfl | rfl | rfl | rfl | rfl | rfl | rfl | rfl
      all_goals rfl
theorem signOf_cases {l : List UInt8} (h : signOf l ≠ []) : signOf l = [61, 61] ∨ signOf l = [33, 61] ∨ ∃ c ∈ signs, signOf l = [c] := by
  unfold signOf at h ⊢
  split
  · exact .inl rfl
  split
  · exact .inr (.inl rfl)
  split
  · next hc =>
    refine .inr (.inr ?_)
    cases l with
    | nil => exact absurd hc (by decide)
    | cons x r => exact ⟨x, by simpa using hc, rfl⟩
  · next h1 h2 h3 => exact absurd (by rw [if_neg h1, if_neg h2, if_neg h3]) h
theorem head_take {l : List UInt8} {n : Nat} (hn : 1 ≤ n) (hl : l ≠ []) : ∃ r, l.take n = l.getD 0 0 :: r := by
  cases l with
  | nil => exact absurd rfl hl
  | cons x r =>
    cases n with
    | zero => omega
    | succ n => exact ⟨r.take n, rfl⟩
theorem token_good {l : List UInt8} (hl : l ≠ []) {t : Tok} (ht : tokenOf l = (t, 0)) : Good t ∧ t.at' = 0 := by
  have hlen := tokenOf_len hl (by rw [ht])
  rw [ht] at hlen
  cases hd : isDigit (l.getD 0 0) with
  | true =>
    have htn : numTok l = (t, 0) := by rw [← ht]; unfold tokenOf; rw [if_pos hd]
    -- the text begins with the digit
    have hpre : ∃ n, 1 ≤ n ∧ t.text = l.take n ∧ t.at' = 0 ∧ t.kind ≠ 6 := by
      have h1 := runLen_pos hl hd
      unfold numTok at htn
      simp only [] at htn
      by_cases c1 : 18 < runLen isDigit l
      · rw [if_pos c1] at htn; simp at htn
      rw [if_neg c1] at htn
      split at htn
      · split at htn
        · simp at htn
        split at htn
        · simp at htn
        split at htn <;> (simp only [Prod.mk.injEq, and_true] at htn; subst htn; exact ⟨_, by omega, rfl, rfl, by simp⟩)
      · split at htn
        · simp at htn
        · simp only [Prod.mk.injEq, and_true] at htn; subst htn; exact ⟨_, h1, rfl, rfl, by simp⟩
    obtain ⟨n, hn, htx, hat, hkd⟩ := hpre
    obtain ⟨r, hr⟩ := head_take hn hl
    obtain ⟨k1, k2, k3⟩ := (kinds_apart (l.getD 0 0)).1 hd
    refine ⟨⟨fun z hz => ?_, fun z hz => ?_, hlen.1, hkd⟩, hat⟩
    · have hs := numTok_stable htn hz
      have e0 : (t.text ++ z).getD 0 0 = l.getD 0 0 := by rw [htx, hr]; rfl
      unfold tokenOf
      rw [e0, if_pos hd, hs]
      obtain ⟨a1, a2, a3, a4, a5, a6⟩ := t
      simp only at hat
      rw [hat]
    · rw [htx, hr]
      exact blank_of k1 (fun e => absurd e k2) hz
  | false =>
    cases hle : isLetter (l.getD 0 0) with
    | true =>
      unfold tokenOf at ht
      rw [hd, if_neg (by simp), hle, if_pos rfl] at ht
      by_cases c1 : 20 < runLen isName l
      · rw [if_pos c1] at ht; simp at ht
      rw [if_neg c1] at ht
      simp only [Prod.mk.injEq, and_true] at ht
      subst ht
      have hn : 1 ≤ runLen isName l := runLen_pos hl (by unfold isName; rw [hle]; rfl)
      obtain ⟨r, hr⟩ := head_take hn hl
      obtain ⟨k1, k2, k3⟩ := (kinds_apart (l.getD 0 0)).2 hle
      have hlr := runLen_le isName l
      refine ⟨⟨fun z hz => ?_, fun z hz => ?_, hlen.1, by (show (if isWord (l.take (runLen isName l)) then (2 : Int) else 1) ≠ 6); split <;> decide⟩, rfl⟩
      · have hrun := runLen_prefix (l.take (runLen isName l)) z (take_all isName l) (beh_p (by rfl) hz)
        have e0 : (l.take (runLen isName l) ++ z).getD 0 0 = l.getD 0 0 := by rw [hr]; rfl
        have hxl : (l.take (runLen isName l)).length = runLen isName l := by rw [List.length_take]; omega
        show tokenOf (l.take (runLen isName l) ++ z) = _
        unfold tokenOf
        rw [e0, hd, if_neg (by simp), hle, if_pos rfl, hrun, if_neg (by omega), List.take_left]
      · show blankLen (l.take (runLen isName l) ++ z) = 0
        rw [hr]
        exact blank_of k1 (fun e => absurd e k2) hz
    | false =>
      unfold tokenOf at ht
      rw [hd, if_neg (by simp), hle, if_neg (by simp)] at ht
      by_cases c1 : signOf l = []
      · rw [if_pos c1] at ht; simp at ht
      rw [if_neg c1] at ht
      simp only [Prod.mk.injEq, and_true] at ht
      subst ht
      obtain ⟨g1, g2⟩ := sign_good _ (signOf_cases c1)
      exact ⟨⟨g1, g2, hlen.1, by simp⟩, rfl⟩

/-- where the tokens stand in the text -/
def Placed (l : List UInt8) : Nat → List Tok → Prop
  | _, [] => True
  | p, t :: r => ∃ q : Nat, t.at' = q ∧ p ≤ q ∧ q + t.text.length ≤ l.length ∧ (l.drop q).take t.text.length = t.text ∧ Placed l (q + t.text.length) r
/-- how a token's text begins where it is read -/
theorem token_text {l : List UInt8} (_hl : l ≠ []) {t : Tok} (ht : tokenOf l = (t, 0)) : l.take t.text.length = t.text := by
  have hp : ∀ p : List UInt8, Lib.hasPrefix l p = true → l.take p.length = p := fun p h => (List.prefix_iff_eq_take.1 (List.isPrefixOf_iff_prefix.1 h)).symm
  have hself : ∀ n, l.take (l.take n).length = l.take n := fun n => by
    rw [List.length_take]
    rcases Nat.le_total n l.length with h | h
    · rw [Nat.min_eq_left h]
    · rw [Nat.min_eq_right h, List.take_length, List.take_of_length_le h]
  unfold tokenOf at ht
  split at ht
  · unfold numTok at ht
    simp only [] at ht
    split at ht
    · simp at ht
    split at ht
    · split at ht
      · simp at ht
      split at ht
      · simp at ht
      split at ht <;> (simp only [Prod.mk.injEq, and_true] at ht; subst ht; exact hself _)
    · split at ht
      · simp at ht
      · simp only [Prod.mk.injEq, and_true] at ht; subst ht; exact hself _
  split at ht
  · split at ht
    · simp at ht
    · simp only [Prod.mk.injEq, and_true] at ht; subst ht; exact hself _
  · split at ht
    · simp at ht
    · simp only [Prod.mk.injEq, and_true] at ht
      subst ht
      show l.take (signOf l).length = signOf l
      unfold signOf
      split
      · next h => exact hp _ h
      split
      · next h => exact hp _ h
      split
      · exact hself 1
      · simp
/-- what a reading without an error is -/
structure Read (l : List UInt8) (p : Nat) (ts : List Tok) : Prop where
  ex : ∃ init, ts = init ++ [endTok l.length] ∧ (∀ t ∈ init, Good t) ∧ (init.map (fun t => t.text.length + 1)).sum ≤ 2 * (l.length - p)
  placed : Placed l p ts
theorem read_of (l : List UInt8) : ∀ (f a : Nat), a ≤ l.length → l.length < f + a → (lexR f a (l.drop a)).2.2 = 0 → Read l a (lexR f a (l.drop a)).1 := by
  intro f
  induction f with
  | zero => intro a h1 h2; omega
  | succ f ih =>
    intro a h1 h2 he
    have hble := blankLen_le (l.drop a)
    rw [List.length_drop] at hble
    obtain ⟨b, hb⟩ : ∃ b, b = blankLen (l.drop a) := ⟨_, rfl⟩
    rw [← hb] at hble
    by_cases hd : (l.drop a).drop (blankLen (l.drop a)) = []
    · have hlen : a + b = l.length := by
        rw [← hb, List.drop_drop, List.drop_eq_nil_iff] at hd; omega
      rw [lexR_end hd, ← hb, hlen]
      exact ⟨⟨[], rfl, by simp, by simp⟩, ⟨l.length, rfl, h1, by simp [endTok], by simp [endTok], trivial⟩⟩
    · unfold lexR at he ⊢
      rw [if_neg hd] at he ⊢
      obtain ⟨⟨t, e⟩, ht⟩ : ∃ r, r = tokenOf ((l.drop a).drop (blankLen (l.drop a))) := ⟨_, rfl⟩
      rw [← ht] at he ⊢
      by_cases he0 : e = 0
      · subst he0
        simp only [ne_eq, not_true_eq_false, if_false] at he ⊢
        obtain ⟨hg, hat⟩ := token_good hd ht.symm
        have htl := tokenOf_len hd (by rw [← ht])
        have htt := token_text hd ht.symm
        rw [← ht] at htl
        simp only [] at htl
        rw [← hb, List.drop_drop] at htt htl he ⊢
        rw [List.length_drop] at htl
        rw [List.drop_drop, ← Nat.add_assoc] at he ⊢
        have hne : (lexR f (a + b + t.text.length) (l.drop (a + b + t.text.length))).2.2 = 0 := by
          by_cases hz : (lexR f (a + b + t.text.length) (l.drop (a + b + t.text.length))).2.2 = 0
          · exact hz
          · rw [if_pos hz] at he; exact he
        rw [if_neg (by rw [hne]; simp)]
        obtain ⟨⟨init, k1, k2, k3⟩, k4⟩ := ih (a + b + t.text.length) (by omega) (by omega) hne
        refine ⟨⟨{ t with at' := (a + b : Nat) } :: init, by rw [k1]; rfl, ?_, ?_⟩, ⟨a + b, rfl, by omega, (show a + b + t.text.length ≤ l.length by omega), htt, k4⟩⟩
        · intro u hu
          rcases List.mem_cons.1 hu with rfl | hu
          · exact ⟨fun z hz => by have := hg.again z hz; exact this, hg.blank, hg.pos, hg.kind⟩
          · exact k2 u hu
        · rw [List.map_cons, List.sum_cons]
          show t.text.length + 1 + _ ≤ _
          have := hg.pos
          omega
      · simp only [ne_eq, he0, not_false_eq_true, if_true] at he

/-- the printed text is read as the same tokens -/
theorem again_of (ts : List Tok) (hg : ∀ t ∈ ts, Good t) : ∀ (f a : Nat) (s : List UInt8), Skip s → (s ++ Lib.join (ts.map Tok.text) [32]).length < f →
    noAt (lexR f a (s ++ Lib.join (ts.map Tok.text) [32])).1 = noAt ts ++ [endTok 0] ∧ (lexR f a (s ++ Lib.join (ts.map Tok.text) [32])).2.2 = 0 := by
  induction ts with
  | nil =>
    intro f a s hs hf
    cases f with
    | zero => omega
    | succ f =>
      have hb : blankLen (s ++ Lib.join (([] : List Tok).map Tok.text) [32]) = s.length := by
        have := hs []
        rw [show blankLen [] = 0 from by decide] at this
        exact this
      rw [lexR_end (by rw [hb]; simp [Lib.join, List.intercalate])]
      exact ⟨rfl, rfl⟩
  | cons t r ih =>
    intro f a s hs hf
    have hgt := hg t (by simp)
    have hz : ∃ z s', Lib.join ((t :: r).map Tok.text) [32] = t.text ++ z ∧ Beh z ∧ Skip s' ∧ z = s' ++ Lib.join (r.map Tok.text) [32] := by
      cases r with
      | nil => exact ⟨[], [], by simp [Lib.join_one], .inl rfl, Skip.nil, by simp [Lib.join, List.intercalate]⟩
      | cons u r =>
        refine ⟨32 :: Lib.join ((u :: r).map Tok.text) [32], [32], ?_, .inr ⟨_, rfl⟩, blank_cons (by rfl), rfl⟩
        rw [List.map_cons, Lib.join_cons, List.map_cons, Lib.join_cons]
        unfold Lib.joinTail
        simp
    obtain ⟨z, s', e1, e2, e3, e4⟩ := hz
    rw [e1] at hf ⊢
    have hb : blankLen (s ++ (t.text ++ z)) = s.length := by rw [hs, hgt.blank z e2]; rfl
    have hdr : (s ++ (t.text ++ z)).drop (blankLen (s ++ (t.text ++ z))) = t.text ++ z := by rw [hb, List.drop_left]
    have hp := hgt.pos
    have hne : (s ++ (t.text ++ z)).drop (blankLen (s ++ (t.text ++ z))) ≠ [] := by
      rw [hdr]
      intro h
      have := congrArg List.length h
      simp at this
      rw [this.1] at hp
      simp at hp
    cases f with
    | zero => omega
    | succ f =>
      have hdd : (t.text ++ z).drop t.text.length = s' ++ Lib.join (r.map Tok.text) [32] := by rw [List.drop_left, e4]
      have hlen : (s' ++ Lib.join (r.map Tok.text) [32]).length < f := by
        rw [← e4]
        simp only [List.length_append] at hf
        omega
      obtain ⟨h1, h2⟩ := ih (fun u hu => hg u (by simp [hu])) f (a + blankLen (s ++ (t.text ++ z)) + t.text.length) s' e3 hlen
      unfold lexR
      rw [if_neg hne, hdr, hgt.again z e2, if_neg (by simp)]
      simp only []
      rw [hdd, if_neg (by rw [h2]; simp)]
      constructor
      · simp only [noAt, List.map_cons] at h1 ⊢
        rw [h1]; rfl
      · rfl

end Go.Proofs.Ytlkkekjbcaabcaa
