/-
  Package lex: one token.
-/
import Derived.Test.YtlkkekjbcaabcaaLexD
namespace Go.Proofs.Ytlkkekjbcaabcaa
open Go.RowKit

def tokenOf (l : List UInt8) : Tok × Int :=
  if isDigit (l.getD 0 0) then numTok l
  else if isLetter (l.getD 0 0) then
    if 20 < runLen isName l then (.zero, 32) else (⟨if isWord (l.take (runLen isName l)) then 2 else 1, 0, l.take (runLen isName l), 0, 0, 0⟩, 0)
  else if signOf l = [] then (.zero, 180) else (⟨5, 0, signOf l, 0, 0, 0⟩, 0)

theorem tok_fin {w wz : World} {g : Nat} {a : Act} {r : Tok × Int} {k at0 i e : Int} {re im : Nat} {l : List UInt8} {x : ByteArray} (hr : r = (⟨k, at0, l, i, re, im⟩, e)) (hx : x = bs l) (hz : wz.heap[g]? = some (.cells zc 31 (0, 0))) (f : Fr [] w wz) (hg : w.heap.size ≤ g)
    (hp : a.tmps.getD 2 undef = .pointer (some ⟨g, 0, none⟩)) (he : a.tmps.getD 3 undef = .int .i64 e) (hd : a.defers = []) :
    bodyPost Try.prog Try.f18 (TokPost w r) .ret a (set5 wz g (.int .i64 k) (.int .i64 at0) (.string x) (.int .i64 i) (.complex .f64 re im)) := by
  refine bodyPost_ret (results_row_tmp (fn := Try.f18) rfl _ _ g _ _ _ _ hp (set5_tok hz _ _ _ _ _) tok_under rfl tok_size) hd ⟨?_, ?_⟩
  · rw [he, hr, hx]; rfl
  · refine ((((((f).setCell ?_ _).setCell ?_ _).setCell ?_ _).setCell ?_ _).setCell ?_ _) <;> exact .inr hg

theorem tok_fin2 {w wz : World} {o : Obj} {g : Nat} {a : Act} {r : Tok × Int} {k at0 i e : Int} {re im : Nat} {l : List UInt8} {x : ByteArray} (hr : r = (⟨k, at0, l, i, re, im⟩, e)) (hx : x = bs l) (hz : wz.heap[g]? = some (.cells zc 31 (0, 0))) (f : Fr [] w wz) (hg : w.heap.size ≤ g)
    (hp : a.tmps.getD 2 undef = .pointer (some ⟨g, 0, none⟩)) (he : a.tmps.getD 3 undef = .int .i64 e) (hd : a.defers = []) :
    bodyPost Try.prog Try.f18 (TokPost w r) .ret a ((set5 wz g (.int .i64 k) (.int .i64 at0) (.string x) (.int .i64 i) (.complex .f64 re im)).alloc o) := by
  refine bodyPost_ret (results_row_tmp (fn := Try.f18) rfl _ _ g _ _ _ _ hp (((Fr.refl [] _).alloc o).obj (set5_tok hz _ _ _ _ _) (by simp)) tok_under rfl tok_size) hd ⟨?_, ?_⟩
  · rw [he, hr, hx]; rfl
  · refine Fr.alloc ?_ o
    refine ((((((f).setCell ?_ _).setCell ?_ _).setCell ?_ _).setCell ?_ _).setCell ?_ _) <;> exact .inr hg

set_option maxRecDepth 20000 in
set_option maxHeartbeats 4000000 in
theorem token_any (s : ByteArray) (hs : s.size ≤ 1000000) (h0 : 0 < s.size) (w : World) : Calls Try.prog 18 #[.string s] w (TokPost w (tokenOf s.data.toList)) := by
  have hsc := run_store_complex
  have hget := get_at s 0 h0
  have HGET := hid hget
  clear hget
  obtain ⟨r, hr⟩ : ∃ r, r = tokenOf s.data.toList := ⟨_, rfl⟩
  rw [← hr]
  have HR := hid hr
  clear hr
  go_enter Try.func18, Try.ntmps18
  go_wp2_with fail
  rw [HGET.out]
  refine (digit_any _ _).mono ?_
  rintro e w1 ⟨rfl, rfl⟩
  obtain ⟨w1, hw1⟩ : ∃ w1, w1 = w.alloc (.cells zc 31) := ⟨_, rfl⟩
  have F1 := hid (show Fr [] w w1 by rw [hw1]; exact (Fr.refl _ _).alloc _)
  have hz1 : w1.heap[w.heap.size]? = some (.cells zc 31 (0, 0)) := by rw [hw1]; exact heap_alloc_new w _
  have hs1 : w1.heap.size = w.heap.size + 1 := by rw [hw1]; simp
  unfold zc at hw1
  rw [← hw1]
  have HZ1 := hid hz1
  clear hz1 hw1
  cases hd : isDigit (s.data.toList.getD 0 0) with
  | true =>
    have hT : tokenOf s.data.toList = numTok s.data.toList := by unfold tokenOf; rw [if_pos hd]
    have HT := hid hT
    clear hT hd
    go_wp2_with fail
    refine (number_any s hs _).mono ?_
    rintro e w2 ⟨rfl, f2⟩
    have HZ2 := hid (f2.obj HZ1.out (by simp))
    have F2 := hid (F1.out.tr f2)
    obtain ⟨⟨⟨k, at0, l, i, re, im⟩, er⟩, hq⟩ : ∃ q, q = numTok s.data.toList := ⟨_, rfl⟩
    rw [← hq]
    have HQ := hid hq
    clear hq
    obtain ⟨c0, c1, c2, c3, c4⟩ := five HZ2.out
    have fz := fun off => frozen_of_row _ _ off _ _ HZ2.out
    simp only [Tok.val, Tok.cells]
    clear f2
    go_wp2_with fail
    exact tok_fin (by rw [HR.out, HT.out, HQ.out]) rfl HZ2.out F2.out (Nat.le_refl _) rfl rfl rfl
  | false =>
    have HD := hid hd
    clear hd
    go_wp2_with fail
    rw [HGET.out]
    refine (letter_any _ _).mono ?_
    rintro e w2 ⟨rfl, rfl⟩
    obtain ⟨z0, z1, z2, z3, z4⟩ := five HZ1.out
    have fz0 := fun off => frozen_of_row _ _ off _ _ HZ1.out
    cases hl : isLetter (s.data.toList.getD 0 0) with
    | true =>
      obtain ⟨n, hn⟩ : ∃ n, n = runLen isName s.data.toList := ⟨_, rfl⟩
      have hl1 := runLen_le isName s.data.toList
      rw [← hn, len_eq] at hl1
      have c1 := run_any name_any (enters_of Try.func34 (by kernel_rfl) rfl) s hs
      rw [← hn] at c1
      have C1 := hid c1
      have HT := hid (show tokenOf s.data.toList = if 20 < n then (.zero, 32) else (⟨if isWord (s.data.toList.take n) then 2 else 1, 0, s.data.toList.take n, 0, 0, 0⟩, 0) by
        unfold tokenOf
        rw [if_neg (by rw [HD.out]; simp), if_pos hl, ← hn])
      clear c1 hn hl
      go_wp2_with fail
      refine (C1.out _).mono ?_
      rintro e w2 ⟨rfl, rfl⟩
      by_cases hbig : 20 < n
      · have hb : (20 : Int) < n := by omega
        have HB := hid hbig
        clear hbig
        go_wp2_with fail
        exact tok_fin (by rw [HR.out, HT.out, if_pos HB.out]; rfl) rfl HZ1.out F1.out (Nat.le_refl _) rfl rfl rfl
      · have hb : ¬ (20 : Int) < n := by omega
        have HB := hid hbig
        have HX := hid (bs_of (ext_take s n))
        clear hbig
        go_wp2_with fail
        refine (word_any _ _).mono ?_
        rintro e w3 ⟨rfl, f3⟩
        rw [ext_take]
        have ht1 := f3.obj (heap_alloc_new _ _) (by simp)
        rw [hs1] at ht1
        have HZ3 := hid (f3.obj (((Fr.refl [] _).alloc _).obj HZ1.out (by simp)) (by simp))
        have F3 := hid ((F1.out.alloc _).tr f3)
        obtain ⟨t0, t1, t2, t3, t4⟩ := five ht1
        obtain ⟨y0, y1, y2, y3, y4⟩ := five HZ3.out
        have fy := fun off => frozen_of_row _ _ off _ _ HZ3.out
        have ft := fun off => frozen_of_row _ _ off _ _ ht1
        clear f3 z0 z1 z2 z3 z4 fz0 ht1
        cases hw : isWord (s.data.toList.take n) with
        | true =>
          have HW := hid hw
          clear hw
          go_wp2_with fail
          exact tok_fin (by rw [HR.out, HT.out, if_neg HB.out, HW.out]; rfl) HX.out (by first | exact HZ3.out | ((repeat rw [heap_setCell_other _ _ _ _ (by simp)]); exact HZ3.out)) (by first | exact F3.out | (repeat (first | exact F3.out | refine Fr.setCell ?_ (.inr (by simp)) _))) (Nat.le_refl _) rfl rfl rfl
        | false =>
          have HW := hid hw
          clear hw
          go_wp2_with fail
          exact tok_fin (by rw [HR.out, HT.out, if_neg HB.out, HW.out]; rfl) HX.out (by first | exact HZ3.out | ((repeat rw [heap_setCell_other _ _ _ _ (by simp)]); exact HZ3.out)) (by first | exact F3.out | (repeat (first | exact F3.out | refine Fr.setCell ?_ (.inr (by simp)) _))) (Nat.le_refl _) rfl rfl rfl
    | false =>
      have HT := hid (show tokenOf s.data.toList = if signOf s.data.toList = [] then (.zero, 180) else (⟨5, 0, signOf s.data.toList, 0, 0, 0⟩, 0) by
        unfold tokenOf
        rw [if_neg (by rw [HD.out]; simp), if_neg (by rw [hl]; simp)])
      clear hl
      go_wp2_with fail
      refine (sign_any s hs h0 _).mono ?_
      rintro e w3 ⟨x, rfl, hx, rfl⟩
      have hxb := bs_of hx
      by_cases hem : signOf s.data.toList = []
      · rw [hem] at hx hxb
        have HT2 := hid HT.out
        rw [if_pos hem] at HT2
        subst hxb
        have hb0 : bs [] = ⟨#[]⟩ := rfl
        rw [hb0]
        clear hx hem hb0
        go_wp2_with fail
        exact tok_fin2 (by rw [HR.out, HT2.out]; rfl) rfl HZ1.out F1.out (Nat.le_refl _) rfl rfl rfl
      · have hne : (x.toList.isEmpty) = false := by
          rw [Lib.toList_data, hx]
          cases h : signOf s.data.toList with
          | nil => exact absurd h hem
          | cons a b => rfl
        have HT2 := hid HT.out
        rw [if_neg hem] at HT2
        have HXB := hid hxb
        clear hx hem hxb
        go_wp2_with fail
        exact tok_fin2 (by rw [HR.out, HT2.out]) HXB.out HZ1.out F1.out (Nat.le_refl _) rfl rfl rfl

end Go.Proofs.Ytlkkekjbcaabcaa
