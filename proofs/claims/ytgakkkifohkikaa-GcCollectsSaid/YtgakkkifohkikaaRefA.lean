/-
  The reference's arena (loomref11): where it lies; New, Find.
-/
import Derived.Test.YtgakkkifohkikaaGcD
import Derived.Test.YtgakkkifohkikaaWholeP
namespace Go.Proofs.Ytgakkkifohkikaa
open Go.RowKit

/-- objects, each with the value that is its words -/
def refL (G : List (Ob × Value)) : List Value := G.flatMap (fun g => [vi g.1.at', vi g.1.cls, g.2])
theorem refL_cons (g : Ob × Value) (G : List (Ob × Value)) : refL (g :: G) = vi g.1.at' :: vi g.1.cls :: g.2 :: refL G := rfl
theorem refL_append (G H : List (Ob × Value)) : refL (G ++ H) = refL G ++ refL H := by simp [refL]
theorem refL_length (G : List (Ob × Value)) : (refL G).length = G.length * 3 := by
  induction G with
  | nil => rfl
  | cons g G ih => rw [refL_cons]; simp only [List.length_cons, ih]; omega
theorem refL_take (G : List (Ob × Value)) (i : Nat) : (refL G).take (i * 3) = refL (G.take i) := by
  induction G generalizing i with
  | nil => simp [refL]
  | cons g G ih =>
    cases i with
    | zero => simp [refL]
    | succ i => rw [show (i + 1) * 3 = i * 3 + 1 + 1 + 1 by omega, refL_cons, List.take_succ_cons, List.take_succ_cons, List.take_succ_cons, ih]; rfl
theorem refL_drop (G : List (Ob × Value)) (i : Nat) : (refL G).drop (i * 3) = refL (G.drop i) := by
  induction G generalizing i with
  | nil => simp [refL]
  | cons g G ih =>
    cases i with
    | zero => simp [refL]
    | succ i => rw [show (i + 1) * 3 = i * 3 + 1 + 1 + 1 by omega, refL_cons, List.drop_succ_cons, List.drop_succ_cons, List.drop_succ_cons, ih]; rfl
theorem refL_get (G : List (Ob × Value)) (i : Nat) (g : Ob × Value) (h : G[i]? = some g) : (refL G).getD (i * 3) undef = vi g.1.at' ∧ (refL G).getD (i * 3 + 1) undef = vi g.1.cls ∧ (refL G).getD (i * 3 + 2) undef = g.2 := by
  induction G generalizing i with
  | nil => simp at h
  | cons q G ih =>
    cases i with
    | zero => simp at h; subst h; exact ⟨rfl, rfl, rfl⟩
    | succ i =>
      simp only [List.getElem?_cons_succ] at h
      obtain ⟨h1, h2, h3⟩ := ih i h
      rw [show (i + 1) * 3 = i * 3 + 1 + 1 + 1 by omega, refL_cons]
      exact ⟨h1, h2, h3⟩
def vus (l : List Int) : List Value := l.map vu
/-- the words of each object lie in its value -/
def WsT (w : World) (G : List (Ob × Value)) : Prop := ∀ g ∈ G, RV w 45 1 g.2 g.1.ws.length (vus g.1.ws)
def fpG (G : List (Ob × Value)) : List Nat := G.flatMap (fun g => fpv g.2)
structure RefT (w : World) (rb : Nat) (vl : Value) (G : List (Ob × Value)) (n : Nat) : Prop where
  blk : w.heap[rb]? = some (.cells #[.int .i64 n, vl] 61 (0, 0))
  ob : RV w 58 3 vl G.length (refL G)
  ws : WsT w G
  rise : Rise n 1 (G.map (·.1))
  small : n ≤ 2048
  nd : (rb :: (fpv vl ++ fpG G)).Nodup
/-- the reference's arena that q points to has n words and the objects L; its blocks are F -/
def Ref (w : World) (q : Value) (F : List Nat) (n : Nat) (L : List Ob) : Prop :=
  ∃ rb vl G, q = ptrV rb ∧ L = G.map (·.1) ∧ F = rb :: (fpv vl ++ fpG G) ∧ RefT w rb vl G n
theorem refL_one {w : World} {G : List (Ob × Value)} (h : WsT w G) : ∀ u ∈ refL G, u.oneCell' = true := by
  intro u hu
  unfold refL at hu
  obtain ⟨g, hg, hm⟩ := List.mem_flatMap.1 hu
  simp only [List.mem_cons, List.not_mem_nil, or_false] at hm
  rcases hm with rfl | rfl | rfl
  · rfl
  · rfl
  · obtain ⟨a, c, e, _⟩ := (h g hg).form
    rw [e]; rfl
theorem mem_fpG {G : List (Ob × Value)} {b : Nat} : b ∈ fpG G ↔ ∃ g ∈ G, b ∈ fpv g.2 := by unfold fpG; rw [List.mem_flatMap]
theorem WsT.keep {S : List Nat} {w w' : World} {G : List (Ob × Value)} (h : WsT w G) (f : Fr S w w') (hn : ∀ b ∈ fpG G, b ∉ S) : WsT w' G :=
  fun g hg => (h g hg).keep f (fun b hb => hn b (mem_fpG.2 ⟨g, hg, hb⟩))
theorem RefT.keep {S : List Nat} {w w' : World} {rb : Nat} {vl : Value} {G : List (Ob × Value)} {n : Nat} (h : RefT w rb vl G n) (f : Fr S w w') (hn : ∀ b ∈ rb :: (fpv vl ++ fpG G), b ∉ S) : RefT w' rb vl G n :=
  ⟨f.obj h.blk (hn _ (by simp)), h.ob.keep f (fun b hb => hn b (by simp [hb])), h.ws.keep f (fun b hb => hn b (by simp [hb])), h.rise, h.small, h.nd⟩
theorem RefT.keep0 {w w' : World} {rb : Nat} {vl : Value} {G : List (Ob × Value)} {n : Nat} (h : RefT w rb vl G n) (f : Fr [] w w') : RefT w' rb vl G n := h.keep f (by simp)
theorem RefT.lt {w : World} {rb : Nat} {vl : Value} {G : List (Ob × Value)} {n : Nat} (h : RefT w rb vl G n) : ∀ b ∈ rb :: (fpv vl ++ fpG G), b < w.heap.size := by
  intro b hb
  simp only [List.mem_cons, List.mem_append] at hb
  rcases hb with rfl | h1 | h1
  · exact lt_of_block h.blk
  · exact h.ob.lt b h1
  · obtain ⟨g, hg, hb⟩ := mem_fpG.1 h1
    exact (h.ws g hg).lt b hb
theorem RefT.c {w : World} {rb : Nat} {vl : Value} {G : List (Ob × Value)} {n : Nat} (h : RefT w rb vl G n) : w.cell? ⟨rb, 0, none⟩ = some (.int .i64 n) ∧ w.cell? ⟨rb, 1, none⟩ = some vl := by
  refine ⟨?_, ?_⟩ <;> (rw [cell_of_row _ _ _ _ _ _ h.blk]; rfl)
theorem RefT.fz {w : World} {rb : Nat} {vl : Value} {G : List (Ob × Value)} {n : Nat} (h : RefT w rb vl G n) (k : Nat) : w.frozen? ⟨rb, k, none⟩ = false := frozen_of_row _ _ _ _ _ h.blk
theorem RefT.glen {w : World} {rb : Nat} {vl : Value} {G : List (Ob × Value)} {n : Nat} (h : RefT w rb vl G n) : G.length ≤ 1024 := by
  have h1 := Rise.length h.rise
  have h2 := h.small
  rw [List.length_map] at h1
  omega
theorem Ref.keep {S : List Nat} {w w' : World} {q : Value} {F : List Nat} {n : Nat} {L : List Ob} (h : Ref w q F n L) (f : Fr S w w') (hn : ∀ b ∈ F, b ∉ S) : Ref w' q F n L := by
  obtain ⟨rb, vl, G, rfl, rfl, rfl, h⟩ := h
  exact ⟨rb, vl, G, rfl, rfl, rfl, h.keep f hn⟩
theorem Ref.keep0 {w w' : World} {q : Value} {F : List Nat} {n : Nat} {L : List Ob} (h : Ref w q F n L) (f : Fr [] w w') : Ref w' q F n L := h.keep f (by simp)
theorem Ref.lt {w : World} {q : Value} {F : List Nat} {n : Nat} {L : List Ob} (h : Ref w q F n L) : ∀ b ∈ F, b < w.heap.size := by
  obtain ⟨rb, vl, G, rfl, rfl, rfl, h⟩ := h
  exact h.lt
theorem Ref.form {w : World} {q : Value} {F : List Nat} {n : Nat} {L : List Ob} (h : Ref w q F n L) : ∃ rb, q = .pointer (some ⟨rb, 0, none⟩) := by
  obtain ⟨rb, vl, G, rfl, rfl, rfl, h⟩ := h
  exact ⟨rb, rfl⟩
theorem Ref.rise {w : World} {q : Value} {F : List Nat} {n : Nat} {L : List Ob} (h : Ref w q F n L) : Rise n 1 L := by
  obtain ⟨rb, vl, G, rfl, rfl, rfl, h⟩ := h
  exact h.rise
/-- what a call that changes the reference's arena leaves -/
def RMoved (w w' : World) (q : Value) (F : List Nat) (n : Nat) (L : List Ob) : Prop := ∃ F', Ref w' q F' n L ∧ Fr F w w' ∧ ∀ x ∈ F', x ∈ F ∨ w.heap.size ≤ x

set_option maxHeartbeats 400000 in
theorem rnew_any (w : World) (words : Int) : Calls Try.prog 23 #[.int .i64 words] w fun e w' => ∃ rb, e = .returned (.pointer (some ⟨rb, 0, none⟩)) ∧ Ref w' (.pointer (some ⟨rb, 0, none⟩)) [rb] (sizeN words) [] ∧ Fr [] w w' ∧ w.heap.size ≤ rb := by
  obtain ⟨n, hn⟩ : ∃ n, n = sizeN words := ⟨_, rfl⟩
  rw [← hn]
  unfold sizeN at hn
  have hmm : max 0 (min words 2048) = (n : Int) := by omega
  have hn2 : n ≤ 2048 := by omega
  have HN := hid hn2
  clear hn hn2
  go_enter Try.func23, Try.ntmps23
  go_wp2_with fail
  go_ret
  refine ⟨_, rfl, ⟨_, .slice none 0 0, [], rfl, rfl, rfl, heap_alloc_new _ _, RV.nil _ _ _, fun g hg => (nomatch hg), by simp [Rise], HN.out, by simp [fpv, Value.ownBlock, fpG]⟩, (Fr.refl _ _).alloc _, Nat.le_refl _⟩

/-- where the object at x stands; -1 -/
def RFindPost (w : World) (L : List Ob) (x : Int) (e : Ending) (w' : World) : Prop := (∃ r : Int, e = .returned (.int .i64 r) ∧ ((r = -1 ∧ has L x = false) ∨ ∃ (i : Nat) (h : i < L.length), r = i ∧ (L[i].at' : Int) = x)) ∧ Fr [] w w'
set_option maxHeartbeats 400000 in
theorem rfind_any {w : World} {q : Value} {F : List Nat} {n : Nat} {L : List Ob} (h : Ref w q F n L) (x : Int) :
    Calls Try.prog 26 #[q, .int .i64 x] w (RFindPost w L x) := by
  obtain ⟨rb, vl, G, rfl, rfl, rfl, h⟩ := h
  have hgl := h.glen
  obtain ⟨a, cap, hv, hc1, hc2⟩ := h.ob.form
  obtain ⟨m, hm⟩ : ∃ m, m = G.length := ⟨_, rfl⟩
  have HH := hid h
  have HM := hid hm
  rw [← hm] at hgl hc1 hv
  unfold maxLen at hc2
  subst hv
  clear h hm
  unfold ptrV
  go_enter Try.func26, Try.ntmps26
  go_wp2_with fail
  go_loopw [5] (fun i wr => ∃ k : Nat, i = .int .i64 k ∧ k ≤ m ∧ Hid ((∀ g ∈ G.take k, (g.1.at' : Int) ≠ x) ∧ Fr [] w wr)) (fun i _ => m - (intOf i).toNat)
  case atStart => exact ⟨0, rfl, by omega, hid ⟨by simp, Fr.refl _ _⟩⟩
  case round =>
    obtain ⟨k, rfl, hk, hr⟩ := hrel
    have HR := hid hr.out
    clear hr
    have HK := hid (HH.out.keep0 HR.out.2)
    have hc := HK.out.c.2
    by_cases hlt : k < m
    · have hlt2 : (k : Int) < m := by omega
      have hkG : k < G.length := by rw [← HM.out]; exact hlt
      obtain ⟨g, hg⟩ : ∃ g, G[k]? = some g := ⟨_, List.getElem?_eq_getElem hkG⟩
      obtain ⟨b, cap', e, k0, _⟩ := HK.out.ob.cell (k * 3) (by omega)
      rw [← HM.out] at e
      cases e
      rw [(refL_get G k g hg).1] at k0
      unfold vi at k0
      have HG := hid hg
      obtain ⟨y, hy⟩ : ∃ y : Nat, y = g.1.at' := ⟨_, rfl⟩
      rw [← hy] at k0
      have HY := hid hy
      clear hg hy
      by_cases hx : (y : Int) = x
      · have hb : ((y : Int) == x) = true := by simpa using hx
        have HX := hid hx
        clear hx
        go_wp2_with fail
        go_ret
        refine ⟨⟨_, rfl, .inr ⟨k, by rw [List.length_map]; exact hkG, rfl, ?_⟩⟩, HR.out.2⟩
        have e2 : G[k] = g := Option.some.inj ((List.getElem?_eq_getElem hkG).symm.trans HG.out)
        rw [List.getElem_map, e2, ← HY.out]
        exact HX.out
      · have hb : ((y : Int) == x) = false := by simpa using hx
        have HX := hid hx
        clear hx
        go_wp2_with fail
        go_roundw
        case rel => exact ⟨k + 1, by go_num, by omega, hid ⟨fun g' hg' => by
          rw [List.take_add_one, HG.out] at hg'
          rcases List.mem_append.1 hg' with h1 | h1
          · exact HR.out.1 g' h1
          · simp only [Option.toList, List.mem_singleton] at h1
            rw [h1, ← HY.out]; exact HX.out, HR.out.2⟩⟩
        case measure => simp [intOf]; omega
    · obtain rfl : k = m := by omega
      have hlt2 : ¬ (k : Int) < k := by omega
      clear hlt
      have HF := hid (show has (G.map (·.1)) x = false from has_none (arFind_none.2 (fun o ho => by
        obtain ⟨g, hg, rfl⟩ := List.mem_map.1 ho
        exact HR.out.1 g (by rw [HM.out, List.take_length]; exact hg))))
      go_wp2_with fail
      go_ret
      exact ⟨⟨_, rfl, .inl ⟨rfl, HF.out⟩⟩, HR.out.2⟩

end Go.Proofs.Ytgakkkifohkikaa
