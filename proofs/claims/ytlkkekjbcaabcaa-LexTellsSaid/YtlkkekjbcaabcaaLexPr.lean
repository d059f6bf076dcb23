/-
  Package lex: Print.
-/
import Derived.Test.YtlkkekjbcaabcaaLexK
import Derived.Test.YtlkkekjbcaabcaaShelfJ
namespace Go.Proofs.Ytlkkekjbcaabcaa
open Go.RowKit

/-- a slice of strings that owns its row -/
def Strs (w : World) (v : Value) (xs : List (List UInt8)) : Prop := SlV w 9 v (xs.map (fun l => Value.string (bs l)))
theorem Strs.nil (w : World) : Strs w (.slice none 0 0) [] := SlV.nil _ _
theorem Strs.form {w : World} {v : Value} {xs : List (List UInt8)} (h : Strs w v xs) : ∃ a cap, v = .slice a xs.length cap ∧ xs.length ≤ cap ∧ cap ≤ maxLen := by
  obtain ⟨a, cap, e, h1, h2⟩ := SlV.form h
  exact ⟨a, cap, by simpa using e, by simpa using h1, h2⟩
theorem Strs.keep {S : List Nat} {w w' : World} {v : Value} {xs : List (List UInt8)} (h : Strs w v xs) (f : Fr S w w') (hn : ∀ b ∈ fpv v, b ∉ S) : Strs w' v xs := SlV.keep h f hn
theorem Strs.keep0 {w w' : World} {v : Value} {xs : List (List UInt8)} (h : Strs w v xs) (f : Fr [] w w') : Strs w' v xs := h.keep f (by simp)
theorem info_str : (Try.prog.info? 9).map (fun i => (i.zero, i.size, i.bytes)) = some (some (.string ⟨#[]⟩), 1, 16) := by kernel_rfl
theorem und_strs : Try.prog.underlying 51 = some (.slice 9) := by kernel_rfl
theorem wpList_append_str {w : World} {ops : Array Oper} {rest : List Oper} {o : Oper} {a : Act} {Q : Exit → Act → World → Prop} (hgd : o.guard = none) (s x : Operand)
    (ho : o.op = .call { callee := .builtin .append, args := #[s, x], argTypes := #[51, 51] })
    (v : Value) (xs : List (List UInt8)) (hs : a.eval s = v) (hown : Strs w v xs) (ad : Addr) (y : List UInt8) (hx : a.eval x = .slice (some ad) 1 1) (hnew : w.cell? ad = some (.string (bs y))) (hlen : xs.length ≤ 1000000)
    (h : ∀ v' w', Strs w' v' (xs ++ [y]) → Fr (fpv v) w w' → (∀ b ∈ fpv v', b ∈ fpv v ∨ w.heap.size ≤ b) → wpList Try.prog ops Q rest (a.put o.dst v') w') :
    wpList Try.prog ops Q (o :: rest) a w := by
  obtain ⟨i0, hi, hz0, hz1, hz2⟩ := info_parts info_str
  refine wpList_append_own_at _ hgd s x 51 ho 0 9 i0 (.string ⟨#[]⟩) 1 16 und_strs hi hz0 hz1 hz2 rfl (by decide) v _ _ hs hown ad 1 1 [.string (bs y)] hx rfl ?_ (fun u hu => by simp at hu; subst hu; rfl) (by unfold maxLen; simp; omega) (by simp; omega) (by omega) ?_
  · intro j u hu
    cases j with
    | zero =>
      simp only [List.getElem?_cons_zero, Option.some.injEq] at hu
      subst hu
      exact hnew
    | succ j => simp at hu
  · intro v' w' h1 h2 _ h4
    refine h v' w' ?_ (grownFr h2) (fun b hb => ?_)
    · have e : (xs.map (fun l => Value.string (bs l))).length + 1 = ((xs ++ [y]).map (fun l => Value.string (bs l))).length := by simp
      unfold Strs SlV
      rw [← e, List.map_append]
      exact h1
    · rw [mem_fpv] at hb
      rcases h4 with h4 | h4
      · exact .inl (mem_fpv.2 (by rw [← h4]; exact hb))
      · right; rw [h4] at hb; cases hb; exact Nat.le_refl _

def shown (ts : List Tok) : List (List UInt8) := (ts.filter (fun t => decide (t.kind ≠ 6))).map Tok.text
def printOf (ts : List Tok) : List UInt8 := Lib.join (shown ts) [32]
theorem shown_take {ts : List Tok} {k : Nat} (h : k < ts.length) : shown (ts.take (k + 1)) = shown (ts.take k) ++ (if ts[k].kind = 6 then [] else [ts[k].text]) := by
  unfold shown
  rw [List.take_succ_eq_append_getElem h, List.filter_append, List.map_append]
  congr 1
  by_cases hk : ts[k].kind = 6 <;> simp [hk]
def TxtPost2 (w : World) (l : List UInt8) (e : Ending) (w' : World) : Prop := e = .returned (.string (bs l)) ∧ Fr [] w w'
theorem join_strs {w : World} {v : Value} {xs : List (List UInt8)} (h : Strs w v xs) (hl : xs.length ≤ 1000000) (hj : (Lib.join xs [32]).length ≤ 140737488355328) :
    Calls Try.prog 26 #[v, .string ⟨#[32]⟩] w (TxtPost2 w (Lib.join xs [32])) := by
  rcases SlV.parts h with ⟨rfl, hx⟩ | ⟨b, cap, cur, rfl, hb, h1, h2, h3, h4⟩
  · have : xs = [] := by simpa using hx
    subst this
    refine (Try.strings_Join_none none 0 ⟨#[32]⟩ w).mono ?_
    rintro e w' ⟨rfl, rfl⟩
    exact ⟨rfl, Fr.refl _ _⟩
  · rw [List.length_map] at h1 h4 ⊢
    have hmap : (xs.map bs).map (fun x => x.data.toList) = xs := by
      rw [List.map_map]
      exact (List.map_congr_left (fun _ _ => rfl)).trans (List.map_id xs)
    have hc := Try.strings_Join b 0 cap (xs.map bs) ⟨#[32]⟩ w (fun j x hj => ?_) (lt_of_block hb) (by rw [List.length_map]; omega) (by rw [List.length_map]; exact h1) (by rw [hmap]; exact hj)
    · rw [List.length_map, hmap] at hc
      refine hc.mono ?_
      rintro e w' ⟨rfl, hbel⟩
      exact ⟨rfl, Go.Proofs.Ytlkkekjbcaabcaa.Below.fr hbel⟩
    · rw [Nat.zero_add, cell_of_row _ _ _ _ _ _ hb, ← Array.getElem?_toList]
      have hjl : j < xs.length := by
        have := (List.getElem?_eq_some_iff.1 hj).1
        simpa using this
      have e1 := congrArg (fun l => l[j]?) h4
      simp only [List.getElem?_take, if_pos hjl] at e1
      rw [e1]
      simp only [List.getElem?_map] at hj ⊢
      cases hx : xs[j]? with
      | none => rw [hx] at hj; cases hj
      | some l => rw [hx] at hj; simp only [Option.map_some, Option.some.injEq] at hj ⊢; rw [hj]

set_option maxRecDepth 20000 in
set_option maxHeartbeats 2000000 in
theorem print_any (w : World) (v : Value) (ts : List Tok) (h : Toks w v ts) (hl : ts.length ≤ 100000) (hj : (printOf ts).length ≤ 140737488355328) : Calls Try.prog 15 #[v] w (TxtPost2 w (printOf ts)) := by
  have hsc := run_store_complex
  have hst : shown (ts.take ts.length) = shown ts := by rw [List.take_length]
  obtain ⟨av, cv, hv, _, _⟩ := h.form
  have HT := hid h
  have HJ := hid hj
  have HST := hid hst
  subst hv
  clear h hj hst
  go_enter Try.func15, Try.ntmps15
  go_wp2_with fail
  go_loopw [3, 8] (fun o i wr => ∃ k : Nat, k ≤ ts.length ∧ i = .int .i64 k ∧ Hid (Strs wr o (shown (ts.take k)) ∧ (shown (ts.take k)).length ≤ k ∧ (∀ b ∈ fpv o, w.heap.size ≤ b) ∧ Fr [] w wr)) (fun _ i _ => ts.length - (intOf i).toNat)
  case atStart => exact ⟨0, Nat.zero_le _, rfl, Strs.nil _, by simp [shown], by simp [fpv, Value.ownBlock], Fr.refl _ _⟩
  case round =>
    obtain ⟨k, hk, rfl, hq⟩ := hrel
    by_cases hlt : k < ts.length
    · obtain hn | ⟨b, cap, hve, hc⟩ := (HT.out.keep0 hq.out.2.2.2).tok
      · exact absurd hlt (by rw [hn]; simp)
      injection hve with e1 e2 e3
      subst e1
      clear e2 e3
      obtain ⟨⟨tk, ta, tx, ti, tr, tm⟩, ht⟩ : ∃ t, t = ts[k] := ⟨_, rfl⟩
      have hg : ts[k]? = some ⟨tk, ta, tx, ti, tr, tm⟩ := by rw [List.getElem?_eq_getElem hlt, ht]
      have cc : ∀ i u, (Tok.cells ⟨tk, ta, tx, ti, tr, tm⟩)[i]? = some u → wr.cell? ⟨b, k * 5 + i, none⟩ = some u := fun i u h => by rw [Nat.mul_comm k 5]; exact hc k _ hg i u h
      have c0 : wr.cell? ⟨b, k * 5, none⟩ = some (.int .i64 tk) := cc 0 _ rfl
      have c1 : wr.cell? ⟨b, k * 5 + 1, none⟩ = some (.int .i64 ta) := cc 1 _ rfl
      have c2 : wr.cell? ⟨b, k * 5 + 2, none⟩ = some (.string (bs tx)) := cc 2 _ rfl
      have c3 : wr.cell? ⟨b, k * 5 + 3, none⟩ = some (.int .i64 ti) := cc 3 _ rfl
      have c4 : wr.cell? ⟨b, k * 5 + 4, none⟩ = some (.complex .f64 tr tm) := cc 4 _ rfl
      have hsh := shown_take hlt
      rw [← ht] at hsh
      simp only [] at hsh
      clear hc hg ht cc
      by_cases hk6 : tk = 6
      · rw [if_pos hk6] at hsh
        have HSH := hid hsh
        subst hk6
        clear hsh
        go_wp2_with fail
        go_roundw
        case rel => exact ⟨k + 1, by omega, by go_num, hid (by rw [HSH.out, List.append_nil]; exact ⟨hq.out.1.keep0 ((Fr.refl _ _).alloc _), by have := hq.out.2.1; omega, hq.out.2.2.1, hq.out.2.2.2.alloc _⟩)⟩
        case measure => simp [intOf]; omega
      · have hk6a : (tk != 6) = true := by simpa using hk6
        rw [if_neg hk6] at hsh
        have HSH := hid hsh
        have hk6b : ¬ tk = 6 := hk6
        obtain ⟨xs, hxs⟩ : ∃ xs, xs = shown (ts.take k) := ⟨_, rfl⟩
        obtain ⟨hq1, hq2, hq3, hq4⟩ := hq.out
        rw [← hxs] at hq1 hq2 HSH
        obtain ⟨ao, co, hoe, _, _⟩ := hq1.form
        subst hoe
        have HQ1 := hid hq1
        have HQ2 := hid (show xs.length ≤ 1000000 by omega)
        have HQ2' := hid hq2
        have HQ3 := hid hq3
        have HQ4 := hid hq4
        clear hsh hxs hq1 hq2 hq3 hq4 hq hk6 hk6b
        go_wp2_with (at_builtin; refine wpList_append_str rfl _ _ rfl (.slice ao xs.length co) xs rfl (HQ1.out.keep0 (((Fr.refl _ _).alloc _).alloc _)) ⟨wr.heap.size + 1, 0, none⟩ tx rfl (by have := cell_one_new (wr.alloc (.cells #[.int .i64 tk, .int .i64 ta, .string (bs tx), .int .i64 ti, .complex .f64 tr tm] 31)) (.string (bs tx)) 9 0 _ rfl; rw [World.size_alloc] at this; exact this) HQ2.out ?_; intro v' w3 q3 f3 b3; have Q3 := hid q3; have F3 := hid f3; have B3 := hid b3; clear q3 f3 b3)
        go_roundw
        case rel =>
          refine ⟨k + 1, by omega, by go_num, hid ⟨by rw [HSH.out]; exact Q3.out, by rw [HSH.out]; have := HQ2'.out; simp; omega, fun x hx => ?_, ?_⟩⟩
          · rcases B3.out x hx with h | h
            · exact HQ3.out x h
            · have := HQ4.out.size
              rw [World.size_alloc, World.size_alloc] at h
              omega
          · exact ((HQ4.out.alloc _).alloc _).trans F3.out (fun x hx => .inr (HQ3.out x hx))
        case measure => simp [intOf]; omega
    · obtain rfl : k = ts.length := by omega
      have HQ := hid hq.out
      rw [HST.out] at HQ
      clear hq
      go_wp2_with fail
      refine (join_strs HQ.out.1 (by have := HQ.out.2.1; omega) HJ.out).mono ?_
      rintro e w2 ⟨rfl, f2⟩
      have F2 := hid (HQ.out.2.2.2.tr f2)
      clear f2
      go_wp2_with fail
      go_ret
      exact ⟨rfl, F2.out⟩

end Go.Proofs.Ytlkkekjbcaabcaa
