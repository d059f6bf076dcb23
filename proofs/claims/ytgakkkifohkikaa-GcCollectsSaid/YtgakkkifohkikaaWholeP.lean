/-
  Plain lemmas on arenas: sums, apartness, the addresses.
-/
import Derived.Test.YtgakkkifohkikaaAgainW
import Derived.Deep.Cut
import Derived.Deep.CutRange
namespace Go.Proofs.Ytgakkkifohkikaa
open Go.RowKit

def sumG (G : List (Nat × Nat)) : Nat := (G.map (·.2)).sum
def sumO (L : List Ob) : Nat := (L.map Ob.sz).sum
theorem gaps_sum {n : Nat} : ∀ {a : Nat} {L : List Ob}, Rise n a L → sumG (gaps n a L) + sumO L + a = n + 1
  | a, [], h => by
    have h' : a ≤ n + 1 := h
    simp only [gaps, sumO, List.map_nil, List.sum_nil]
    by_cases ha : a ≤ n
    · rw [if_pos ha]; simp [sumG]; omega
    · rw [if_neg ha]; simp [sumG]; omega
  | a, o :: r, h => by
    have h0 := h.1
    have h1 := gaps_sum h.2
    have e : sumO (o :: r) = o.sz + sumO r := by simp [sumO]
    rw [e]
    simp only [gaps]
    by_cases ha : a < o.at'
    · rw [if_pos ha]
      have e2 : sumG ([(a, o.at' - a)] ++ gaps n (o.at' + o.sz) r) = (o.at' - a) + sumG (gaps n (o.at' + o.sz) r) := by simp [sumG]
      rw [e2]; omega
    · rw [if_neg ha, List.nil_append]; omega
theorem gaps_apart {n : Nat} : ∀ {a : Nat} {L : List Ob}, Rise n a L → (gaps n a L).Pairwise (fun g h => g.1 + g.2 < h.1)
  | a, [], h => by
    simp only [gaps]
    split <;> simp
  | a, o :: r, h => by
    simp only [gaps]
    have h1 := gaps_apart h.2
    by_cases ha : a < o.at'
    · rw [if_pos ha, List.singleton_append, List.pairwise_cons]
      refine ⟨fun g hg => ?_, h1⟩
      have := (gaps_lb h.2 g hg).1
      simp only [Ob.sz] at this
      simp only []
      omega
    · rw [if_neg ha, List.nil_append]; exact h1
theorem sumG_take (G : List (Nat × Nat)) (k : Nat) (g : Nat × Nat) (h : G[k]? = some g) : sumG (G.take (k + 1)) = sumG (G.take k) + g.2 := by
  unfold sumG
  rw [List.take_add_one, h]
  simp
theorem sumO_take (L : List Ob) (k : Nat) (o : Ob) (h : L[k]? = some o) : sumO (L.take (k + 1)) = sumO (L.take k) + o.ws.length + 2 := by
  unfold sumO
  rw [List.take_add_one, h]
  simp [Ob.sz]
  omega
theorem sumO_le (L : List Ob) (k : Nat) : sumO (L.take k) ≤ sumO L := by
  unfold sumO
  conv => rhs; rw [← List.take_append_drop k L]
  rw [List.map_append, List.sum_append]
  omega
theorem sumG_le (G : List (Nat × Nat)) (k : Nat) : sumG (G.take k) ≤ sumG G := by
  unfold sumG
  conv => rhs; rw [← List.take_append_drop k G]
  rw [List.map_append, List.sum_append]
  omega
theorem arFind_at {n a : Nat} {L : List Ob} (h : Rise n a L) {o : Ob} (ho : o ∈ L) : arFind L (o.at' : Int) = some o := by
  cases hf : arFind L (o.at' : Int) with
  | none => exact absurd rfl (arFind_none.1 hf o ho)
  | some q =>
    obtain ⟨hq, he⟩ := arFind_mem hf
    have he' : q.at' = o.at' := by omega
    rcases Rise.apart h q hq o ho with e | e | e
    · rw [e]
    · simp only [Ob.sz] at e; omega
    · simp only [Ob.sz] at e; omega
theorem relE_gone (L : List Ob) (x : Int) (h : has L x = true) : relE (relL L x) x = 111 ∧ relL (relL L x) x = relL L x := by
  have e : relL L x = arDrop L x := by unfold relL; rw [h]; rfl
  have hn : has (arDrop L x) x = false := by
    refine has_none (arFind_none.2 (fun q hq => ?_))
    unfold arDrop at hq
    simpa using (List.mem_filter.1 hq).2
  rw [e]
  unfold relE relL
  rw [hn]
  exact ⟨rfl, rfl⟩
theorem arDrop_length {n a : Nat} {L : List Ob} (h : Rise n a L) {x : Int} (hx : has L x = true) : (relL L x).length + 1 = L.length := by
  have e : relL L x = arDrop L x := by unfold relL; rw [hx]; rfl
  rw [e]
  cases hf : arFind L x with
  | none => rw [has_none hf] at hx; cases hx
  | some o =>
    obtain ⟨L1, L2, rfl, _, hd, _⟩ := h.find_split hf
    rw [hd]
    simp
    omega
theorem insOb_length (o : Ob) (L : List Ob) : (insOb o L).length = L.length + 1 := by
  induction L with
  | nil => rfl
  | cons q r ih => simp only [insOb]; split <;> simp [ih]
theorem insOb_mem (o : Ob) (L : List Ob) (q : Ob) : q ∈ insOb o L ↔ q = o ∨ q ∈ L := by
  induction L with
  | nil => simp [insOb]
  | cons p r ih =>
    simp only [insOb]
    split
    · simp only [List.mem_cons, ih]
      constructor
      · rintro (h | h | h)
        · exact .inr (.inl h)
        · exact .inl h
        · exact .inr (.inr h)
      · rintro (h | h | h)
        · exact .inr (.inl h)
        · exact .inl h
        · exact .inr (.inr h)
    · simp only [List.mem_cons]
theorem arAlloc_some {n : Nat} {L : List Ob} {c k x : Nat} {L' : List Ob} (h : arAlloc n L c k = some (x, L')) : place k (gaps n 1 L) = some x ∧ L' = insOb (newOb x c k) L := by
  unfold arAlloc at h
  cases hp : place k (gaps n 1 L) with
  | none => rw [hp] at h; cases h
  | some y => rw [hp] at h; cases h; exact ⟨rfl, rfl⟩
theorem arAlloc_none {n : Nat} {L : List Ob} {c k : Nat} (h : arAlloc n L c k = none) : place k (gaps n 1 L) = none := by
  unfold arAlloc at h
  cases hp : place k (gaps n 1 L) with
  | none => rfl
  | some y => rw [hp] at h; cases h
/-- a new object begins where none does -/
theorem place_new {n : Nat} {L : List Ob} {k x : Nat} (hr : Rise n 1 L) (h : place k (gaps n 1 L) = some x) : ∀ o ∈ L, o.at' ≠ x := by
  obtain ⟨G1, m, G2, hG, hm, _⟩ := place_some h
  obtain ⟨L1, L2, rfl, a1, a2, _⟩ := gaps_take hr hG
  intro o ho
  have := gaps_lb hr (x, m) (by rw [hG]; simp)
  simp only [] at this
  rcases List.mem_append.1 ho with ho | ho
  · have := a1 o ho; simp only [Ob.sz] at this; omega
  · have := a2 o ho; omega
theorem Match.add {n : Nat} {l : List Int} {L L' : List Ob} {c k x : Nat} (h : Match l L) (hr : Rise n 1 L) (ha : arAlloc n L c k = some (x, L')) : Match (l ++ [(x : Int)]) L' := by
  obtain ⟨hp, rfl⟩ := arAlloc_some ha
  have hnew := place_new hr hp
  refine ⟨List.nodup_append.2 ⟨h.1, by simp, fun a ha' b hb e => ?_⟩, fun y => ?_⟩
  · rw [List.mem_singleton.1 hb] at e
    subst e
    obtain ⟨o, ho, he⟩ := (h.2 _).1 ha'
    exact hnew o ho (by omega)
  · rw [List.mem_append, h.2 y, List.mem_singleton]
    constructor
    · rintro (⟨o, ho, he⟩ | rfl)
      · exact ⟨o, (insOb_mem _ _ _).2 (.inr ho), he⟩
      · exact ⟨newOb x c k, (insOb_mem _ _ _).2 (.inl rfl), rfl⟩
    · rintro ⟨o, ho, he⟩
      rcases (insOb_mem _ _ _).1 ho with rfl | ho
      · exact .inr he.symm
      · exact .inl ⟨o, ho, he⟩
theorem Match.length {n a : Nat} {l : List Int} {L : List Ob} (h : Match l L) (hr : Rise n a L) : l.length = L.length := by
  have h2 := Match.of_rise hr
  have hp : l.Perm (L.map (fun o => (o.at' : Int))) := (List.perm_ext_iff_of_nodup h.1 h2.1).2 (fun x => (h.2 x).trans (h2.2 x).symm)
  rw [hp.length_eq, List.length_map]

theorem Own.glen {w0 w : World} {p : Value} {n : Nat} {L : List Ob} (h : Own w0 w p n L) : (gaps n 1 L).length ≤ 3000 := by
  obtain ⟨⟨F, ⟨hb, vw, vf, vo, cs, _, _, hA⟩, _⟩, _⟩ := h
  exact hA.glen
theorem OwnF.glen {w0 w : World} {p : Value} {n : Nat} {L : List Ob} {A : List Nat} (h : OwnF w0 w p n L A) : (gaps n 1 L).length ≤ 3000 := h.own.glen
theorem OwnF.rise {w0 w : World} {p : Value} {n : Nat} {L : List Ob} {A : List Nat} (h : OwnF w0 w p n L A) : Rise n 1 L := h.own.rise

end Go.Proofs.Ytgakkkifohkikaa
