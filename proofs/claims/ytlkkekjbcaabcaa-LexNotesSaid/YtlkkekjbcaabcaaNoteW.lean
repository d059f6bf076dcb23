/-
  LexNotes: the walk.
-/
import Derived.Test.YtlkkekjbcaabcaaNoteP
import Derived.Test.YtlkkekjbcaabcaaRowU
import Derived.Test.YtlkkekjbcaabcaaDec
import Derived.RegionTactic
namespace Go.Proofs.Ytlkkekjbcaabcaa
open Go.RowKit

def w8 (z : Int) : List UInt8 := words8.getD (z % 8).toNat []
def b5 (z : Int) : List UInt8 := btw5.getD (z % 5).toNat []
def itP (z : Int) : Item := ⟨[], w8 z, [32]⟩
def itN (z : Int) : Item := ⟨b5 (z / 8), w8 z, b5 (z / 40)⟩
theorem w8_mem (z : Int) : w8 z ∈ words8 := by
  unfold w8
  have h : (z % 8).toNat < 8 := by omega
  generalize (z % 8).toNat = k at h
  have : ∀ k, k < 8 → words8.getD k [] ∈ words8 := by decide
  exact this k h
theorem b5_mem (z : Int) : b5 z ∈ btw5 := by
  unfold b5
  have h : (z % 5).toNat < 5 := by omega
  generalize (z % 5).toNat = k at h
  have : ∀ k, k < 5 → btw5.getD k [] ∈ btw5 := by decide
  exact this k h
theorem itP_ok (z : Int) : (itP z).ok := ⟨Skip.nil, w8_mem z, by simp [itP, btw5]⟩
theorem itN_ok (z : Int) : (itN z).ok := ⟨skip_btw _ (b5_mem _), w8_mem z, b5_mem _⟩
theorem it_len (z : Int) : (itP z).text.length ≤ 30 ∧ (itN z).text.length ≤ 30 := by
  have h1 : ∀ w ∈ words8, w.length ≤ 10 := by decide
  have h2 : ∀ w ∈ btw5, w.length ≤ 10 := by decide
  have k1 := h1 _ (w8_mem z)
  have k2 := h2 _ (b5_mem (z / 8))
  have k3 := h2 _ (b5_mem (z / 40))
  simp only [Item.text, itP, itN, List.length_append, List.length_cons, List.length_nil]
  omega
theorem texts_snoc (l : List Item) (i : Item) : texts (l ++ [i]) = texts l ++ i.text := by simp [texts]
theorem texts_len (f : Int → Item) (hf : ∀ z, (f z).text.length ≤ 30) (zs : List Int) : (texts (zs.map f)).length ≤ 30 * zs.length := by
  induction zs with
  | nil => simp [texts]
  | cons z r ih =>
    have := hf z
    simp only [texts, List.map_cons, List.flatMap_cons, List.length_append, List.length_cons] at ih ⊢
    omega
theorem take_snocZ (l : List Int) (k : Nat) (h : k < l.length) : l.take (k + 1) = l.take k ++ [l.getD k 0] := by
  rw [List.take_succ_eq_append_getElem h, List.getD, List.getElem?_eq_getElem h]; rfl

theorem tail_len (m : Nat) (r : List (List UInt8)) (h : ∀ x ∈ r, x.length ≤ m) : ((r.map ([32] ++ ·)).flatten).length ≤ r.length * (m + 1) := by
  induction r with
  | nil => simp
  | cons x r ih =>
    have h1 := h x (by simp)
    have h2 := ih (fun y hy => h y (by simp [hy]))
    simp only [List.map_cons, List.flatten_cons, List.length_append, List.length_cons, List.length_nil] at h2 ⊢
    rw [Nat.succ_mul]
    omega
theorem join_len (m : Nat) (xs : List (List UInt8)) (h : ∀ x ∈ xs, x.length ≤ m) : (Lib.join xs [32]).length ≤ xs.length * (m + 1) := by
  cases xs with
  | nil => simp [Lib.join]
  | cons x r =>
    have h1 := h x (by simp)
    have h2 := tail_len m r (fun y hy => h y (by simp [hy]))
    rw [Lib.join_cons]
    unfold Lib.joinTail
    rw [List.length_append, List.length_cons, Nat.succ_mul]
    omega
theorem print_len {items : List Item} {ts : List Tok} (hok : ∀ i ∈ items, i.ok) (h : noAt ts = items.map (fun i => { tokW i.w with at' := 0 }) ++ [endTok 0]) : (printOf ts).length ≤ (items.length + 1) * 11 := by
  have hx : ∀ w ∈ words8, w.length ≤ 10 := by decide
  unfold printOf
  rw [← shown_noAt, h]
  have hlen : (shown (items.map (fun i => { tokW i.w with at' := 0 }) ++ [endTok 0])).length ≤ items.length + 1 := by
    unfold shown
    rw [List.length_map]
    refine Nat.le_trans (List.length_filter_le _ _) ?_
    simp
  refine Nat.le_trans (join_len 10 _ (fun x hx' => ?_)) (Nat.mul_le_mul_right 11 hlen)
  unfold shown at hx'
  obtain ⟨t, ht, rfl⟩ := List.mem_map.1 hx'
  have ht := (List.mem_filter.1 ht).1
  rcases List.mem_append.1 ht with h1 | h1
  · obtain ⟨i, hi, rfl⟩ := List.mem_map.1 h1
    show (tokW i.w).text.length ≤ 10
    rw [word_text _ (hok i hi).2.1]
    exact hx _ (hok i hi).2.1
  · rw [List.mem_singleton.1 h1]; simp [endTok]

def wcells : Array Value := (words8.map (fun l => Value.string (bs l))).toArray
def bcells : Array Value := (btw5.map (fun l => Value.string (bs l))).toArray
theorem wcell (z : Int) : wcells[(z % 8).toNat]? = some (.string (bs (w8 z))) := by
  unfold w8
  have h : (z % 8).toNat < 8 := by omega
  generalize (z % 8).toNat = k at h
  obtain rfl | rfl | rfl | rfl | rfl | rfl | rfl | rfl : k = 0 ∨ k = 1 ∨ k = 2 ∨ k = 3 ∨ k = 4 ∨ k = 5 ∨ k = 6 ∨ k = 7 := by omega
  all_goals rfl
theorem bcell (z : Int) : bcells[(z % 5).toNat]? = some (.string (bs (b5 z))) := by
  unfold b5
  have h : (z % 5).toNat < 5 := by omega
  generalize (z % 5).toNat = k at h
  obtain rfl | rfl | rfl | rfl | rfl : k = 0 ∨ k = 1 ∨ k = 2 ∨ k = 3 ∨ k = 4 := by omega
  all_goals rfl

set_option maxRecDepth 20000 in
set_option maxHeartbeats 8000000 in
theorem notes_walk (a0 : Option Addr) (len0 cap0 : Nat) (z0 : List Int) (W : World) (w0 : IsRow .u8 W a0 len0 cap0 z0) :
    Calls Try.prog 7 #[.slice a0 len0 cap0] W fun e w' => e = .returned (.bool true) ∧ Fr [] W w' := by
  have hlen := w0.len
  by_cases hb0 : 20 < len0
  · clear w0
    go_enter Try.func7, Try.ntmps7
    go_wp2_with fail
    refine (known_any W).mono ?_
    rintro e wA ⟨rfl, f0⟩
    go_wp2_with fail
    go_ret
    exact ⟨rfl, f0⟩
  · have hb1 : len0 ≤ 20 := by omega
    clear hb0
    have W0 := hid w0
    clear w0
    go_enter Try.func7, Try.ntmps7
    go_wp2_with fail
    refine (known_any W).mono ?_
    rintro e wA ⟨rfl, f0⟩
    have F0 := hid f0
    clear f0
    go_wp2_with fail
    obtain ⟨w1, hw1⟩ : ∃ w1, w1 = (wA.alloc (.cells #[.string ⟨#[99, 108, 97, 115, 115]⟩, .string ⟨#[120]⟩, .string ⟨#[49, 50]⟩, .string ⟨#[51, 105]⟩, .string ⟨#[61, 61]⟩, .string ⟨#[61]⟩, .string ⟨#[123]⟩, .string ⟨#[119, 104, 105, 108, 101]⟩] 43)).alloc (.cells #[.string ⟨#[32]⟩, .string ⟨#[9, 32, 10]⟩, .string ⟨#[47, 47, 32, 123, 32, 53, 32, 35, 10]⟩, .string ⟨#[32, 47, 47, 10, 13]⟩, .string ⟨#[10, 47, 47, 10]⟩] 44) := ⟨_, rfl⟩
    have hBW : w1.heap[wA.heap.size]? = some (.cells wcells 43 (0, 0)) := by
      rw [hw1]
      exact ((Fr.refl [] _).alloc _).obj (heap_alloc_new wA _) (by simp)
    have hBB : w1.heap[wA.heap.size + 1]? = some (.cells bcells 44 (0, 0)) := by
      rw [hw1]
      have := heap_alloc_new (wA.alloc (.cells #[.string ⟨#[99, 108, 97, 115, 115]⟩, .string ⟨#[120]⟩, .string ⟨#[49, 50]⟩, .string ⟨#[51, 105]⟩, .string ⟨#[61, 61]⟩, .string ⟨#[61]⟩, .string ⟨#[123]⟩, .string ⟨#[119, 104, 105, 108, 101]⟩] 43)) (.cells #[.string ⟨#[32]⟩, .string ⟨#[9, 32, 10]⟩, .string ⟨#[47, 47, 32, 123, 32, 53, 32, 35, 10]⟩, .string ⟨#[32, 47, 47, 10, 13]⟩, .string ⟨#[10, 47, 47, 10]⟩] 44)
      rw [World.size_alloc] at this
      exact this
    have F1 := hid (show Fr [] W w1 by rw [hw1]; exact (F0.out.alloc _).alloc _)
    have HBW := hid hBW
    have HBB := hid hBB
    rw [← hw1]
    clear hw1 hBW hBB
    go_loopw [5, 6, 7] (fun s5 s6 i wr => ∃ k : Nat, k ≤ len0 ∧ i = .int .i64 k ∧ s5 = .string (bs (texts ((z0.take k).map (fun z => itP z)))) ∧ s6 = .string (bs (texts ((z0.take k).map (fun z => itN z)))) ∧ Hid (Fr [] w1 wr)) (fun _ _ i _ => len0 - (intOf i).toNat)
    case atStart => exact ⟨0, Nat.zero_le _, rfl, rfl, rfl, Fr.refl _ _⟩
    case round =>
      obtain ⟨k, hk, rfl, rfl, rfl, hf⟩ := hrel
      have hl5 := texts_len (fun z => itP z) (fun z => (it_len z).1) (z0.take k)
      have hl6 := texts_len (fun z => itN z) (fun z => (it_len z).2) (z0.take k)
      rw [List.length_take] at hl5 hl6
      by_cases hlt : k < len0
      · obtain ⟨b, off, rfl, hcell0, hwf⟩ := W0.out.cell k hlt
        have hcell := (F1.out.tr hf.out).cell hcell0 (by simp)
        obtain ⟨x1, x2⟩ := u8_bounds hwf
        have hsn := take_snocZ z0 k (by omega)
        generalize z0.getD k 0 = z at hcell x1 x2 hsn
        obtain ⟨n, rfl⟩ : ∃ n : Nat, z = (n : Int) := ⟨z.toNat, by omega⟩
        have hcw : wr.cell? ⟨wA.heap.size, n % 8, none⟩ = some (.string (bs (w8 n))) := by
          rw [cell_of_row _ _ _ _ _ _ (hf.out.obj HBW.out (by simp)), show n % 8 = ((n : Int) % 8).toNat by omega]; exact wcell n
        have hcb : wr.cell? ⟨wA.heap.size + 1, n / 8 % 5, none⟩ = some (.string (bs (b5 ((n : Int) / 8)))) := by
          rw [cell_of_row _ _ _ _ _ _ (hf.out.obj HBB.out (by simp)), show n / 8 % 5 = ((n : Int) / 8 % 5).toNat by omega]; exact bcell _
        have hcc : wr.cell? ⟨wA.heap.size + 1, n / 40 % 5, none⟩ = some (.string (bs (b5 ((n : Int) / 40)))) := by
          rw [cell_of_row _ _ _ _ _ _ (hf.out.obj HBB.out (by simp)), show n / 40 % 5 = ((n : Int) / 40 % 5).toNat by omega]; exact bcell _
        obtain ⟨T5, hT5⟩ : ∃ T, T = texts ((z0.take k).map (fun z => itP z)) := ⟨_, rfl⟩
        obtain ⟨T6, hT6⟩ : ∃ T, T = texts ((z0.take k).map (fun z => itN z)) := ⟨_, rfl⟩
        rw [← hT5] at hl5 ⊢
        rw [← hT6] at hl6 ⊢
        have hi := it_len (n : Int)
        simp only [Item.text, itP, itN, List.length_append, List.nil_append] at hi
        have HN5 := hid (show texts ((z0.take (k + 1)).map (fun z => itP z)) = T5 ++ (w8 n ++ [32]) by rw [hsn, List.map_append, List.map_singleton, texts_snoc, ← hT5]; rfl)
        have HN6 := hid (show texts ((z0.take (k + 1)).map (fun z => itN z)) = T6 ++ (b5 ((n : Int) / 8) ++ (w8 n ++ b5 ((n : Int) / 40))) by rw [hsn, List.map_append, List.map_singleton, texts_snoc, ← hT6]; rfl)
        generalize hp1 : w8 (n : Int) = p1 at *
        generalize hp2 : b5 ((n : Int) / 8) = p2 at *
        generalize hp3 : b5 ((n : Int) / 40) = p3 at *
        have s1 : (bs T5).size = T5.length := bs_size _
        have s2 : (bs T6).size = T6.length := bs_size _
        have s3 : (bs p1).size = p1.length := bs_size _
        have s4 : (bs p2).size = p2.length := bs_size _
        have s5 : (bs p3).size = p3.length := bs_size _
        clear hsn hT5 hT6 hp1 hp2 hp3 hcell0 hwf
        go_wp2_with fail
        go_quiet (fail)
        have HFQ := hid (hf.out.drewN nq)
        clear hcell hcw hcb hcc
        go_wp2_with fail
        go_roundw
        case rel =>
          refine ⟨k + 1, by omega, by go_num, ?_, ?_, HFQ.out⟩
          · rw [HN5.out]
            show Value.string (bs T5 ++ bs p1 ++ bs [32]) = _
            rw [bs_app, bs_app, List.append_assoc]
          · rw [HN6.out]
            show Value.string (bs T6 ++ bs p2 ++ bs p1 ++ bs p3) = _
            rw [bs_app, bs_app, bs_app, List.append_assoc, List.append_assoc]
        case measure => simp [intOf]; omega
      · obtain rfl : k = len0 := by omega
        have hok5 : ∀ i ∈ (z0.take k).map (fun z => itP z), i.ok := by
          intro i hi
          obtain ⟨z, _, rfl⟩ := List.mem_map.1 hi
          exact itP_ok z
        have hok6 : ∀ i ∈ (z0.take k).map (fun z => itN z), i.ok := by
          intro i hi
          obtain ⟨z, _, rfl⟩ := List.mem_map.1 hi
          exact itN_ok z
        obtain ⟨g5, g5e⟩ := lex_texts hok5 (by omega)
        obtain ⟨g6, g6e⟩ := lex_texts hok6 (by omega)
        have hsame : noAt (lexAll (texts ((z0.take k).map (fun z => itP z)))).1 = noAt (lexAll (texts ((z0.take k).map (fun z => itN z)))).1 := by
          rw [g5, g6, List.map_map, List.map_map]; rfl
        have hcnt : (lexAll (texts ((z0.take k).map (fun z => itP z)))).1.length = k + 1 := by
          have := congrArg List.length g5
          simp only [noAt, List.length_map, List.length_append, List.length_cons, List.length_nil, List.length_take] at this
          omega
        have hcnt6 : (lexAll (texts ((z0.take k).map (fun z => itN z)))).1.length = k + 1 := by
          have := congrArg List.length g6
          simp only [noAt, List.length_map, List.length_append, List.length_cons, List.length_nil, List.length_take] at this
          omega
        have cA := fun w => all_any (bs (texts ((z0.take k).map (fun z => itP z)))) (by rw [bs_size]; omega) w
        have cB := fun w => all_any (bs (texts ((z0.take k).map (fun z => itN z)))) (by rw [bs_size]; omega) w
        rw [bs_list] at cA cB
        have hpl : (printOf (lexAll (texts ((z0.take k).map (fun z => itP z)))).1).length ≤ 140737488355328 := by
          have h1 := print_len hok5 g5
          rw [List.length_map, List.length_take] at h1
          omega
        generalize texts ((z0.take k).map (fun z => itP z)) = T5 at *
        generalize texts ((z0.take k).map (fun z => itN z)) = T6 at *
        obtain ⟨⟨ts, ta, te⟩, ht⟩ : ∃ r, r = lexAll T5 := ⟨_, rfl⟩
        obtain ⟨⟨us, ua, ue⟩, hu⟩ : ∃ r, r = lexAll T6 := ⟨_, rfl⟩
        rw [← ht] at cA g5e hsame hcnt hpl
        rw [← hu] at cB g6e hsame hcnt6
        simp only [] at g5e g6e hsame hcnt hcnt6 hpl
        subst g5e
        subst g6e
        have CA := hid cA
        have CB := hid cB
        have HS := hid hsame
        have HC := hid hcnt
        have HC6 := hid hcnt6
        have HPL := hid hpl
        have HPE := hid (printOf_noAt hsame)
        clear cA cB hsame hcnt hcnt6 hpl ht hu g5 g6 hok5 hok6 hlt hk
        go_wp2_with fail
        refine (CA.out _).mono ?_
        rintro e w2 ⟨v1, rfl, hv1, _, f2⟩
        have F2 := hid ((F1.out.tr hf.out).tr f2)
        have HV1 := hid hv1
        obtain ⟨a1, c1, e1, _, _⟩ := hv1.form
        simp only [] at e1
        rw [HC.out] at e1
        subst e1
        clear hv1 f2
        go_wp2_with fail
        refine (CB.out _).mono ?_
        rintro e w3 ⟨v2, rfl, hv2, _, f3⟩
        have F3 := hid (F2.out.tr f3)
        have HV2 := hid hv2
        have HV1' := hid (HV1.out.keep0 f3)
        obtain ⟨a2, c2, e2, _, _⟩ := hv2.form
        simp only [] at e2
        rw [HC6.out] at e2
        subst e2
        clear hv2 f3
        go_wp2_with fail
        refine (same_any w3 _ _ ts us HV1'.out HV2.out HS.out (by have := HC.out; omega)).mono ?_
        rintro e w4 ⟨rfl, f4⟩
        have F4 := hid (F3.out.tr f4)
        have HP1 := hid (HV1'.out.keep0 f4)
        have HP2 := hid (HV2.out.keep0 f4)
        clear f4
        go_wp2_with fail
        refine (print_any w4 _ ts HP1.out (by have := HC.out; omega) HPL.out).mono ?_
        rintro e w5 ⟨rfl, f5⟩
        have F5 := hid (F4.out.tr f5)
        have HP3 := hid (HP2.out.keep0 f5)
        clear f5
        go_wp2_with fail
        refine (print_any w5 _ us HP3.out (by have := HC6.out; omega) (by rw [← HPE.out]; exact HPL.out)).mono ?_
        rintro e w6 ⟨rfl, f6⟩
        rw [← HPE.out]
        have F6 := hid (F5.out.tr f6)
        clear f6
        go_wp2_with fail
        go_ret
        exact ⟨rfl, F6.out⟩

end Go.Proofs.Ytlkkekjbcaabcaa
