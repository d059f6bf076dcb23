/-
  The document's watch in memory: where what lies, and what becomes of it behind a store.
-/
import Derived.Test.YtjkakhjajfpldaaRaceT
namespace Go.Proofs.Ytjkakhjajfpldaa
open Go.RowKit

def keptL (l : List ((Int × Int) × List Int)) : List Value := l.flatMap (fun p => vi p.1.1 :: vi p.1.2 :: p.2.map vi)
def accL (l : List Acc) : List Value := l.flatMap (fun a => vi a.th :: vi a.at' :: vi a.i :: .bool a.wr :: a.c.map vi)
structure RLen (r : RSt) : Prop where
  nl : r.now.length = 13
  now : ∀ t : Nat, t < 13 → (r.now.getD t []).length = 13
  el : r.en.length = 13
  en : ∀ t : Nat, t < 13 → (r.en.getD t []).length = 13
  dl : r.ended.length = 13
  kept : ∀ p ∈ r.kept, p.2.length = 13
  acc : ∀ a ∈ r.l, a.c.length = 13
structure RC (C : Array Value) (r : RSt) (vk vl : Value) : Prop where
  sz : C.size = 354
  now : ∀ t i, t < 13 → i < 13 → C[t * 13 + i]? = some (vi ((r.now.getD t []).getD i 0))
  en : ∀ t i, t < 13 → i < 13 → C[169 + t * 13 + i]? = some (vi ((r.en.getD t []).getD i 0))
  ended : ∀ t, t < 13 → C[338 + t]? = some (.bool (r.ended.getD t false))
  k : C[351]? = some vk
  l : C[352]? = some vl
  races : C[353]? = some (vi r.races)
structure RefT (w : World) (rb : Nat) (vk vl : Value) (C : Array Value) (r : RSt) : Prop where
  blk : w.heap[rb]? = some (.cells C 51 (0, 0))
  rc : RC C r vk vl
  kept : RV w 76 15 vk r.kept.length (keptL r.kept)
  accs : RV w 78 17 vl r.l.length (accL r.l)
  ln : RLen r
  nd : (rb :: (fpv vk ++ fpv vl)).Nodup
/-- the document's watch at block rb; its blocks are F -/
def Ref (w : World) (rb : Nat) (F : List Nat) (r : RSt) : Prop := ∃ vk vl C, F = rb :: (fpv vk ++ fpv vl) ∧ RefT w rb vk vl C r
def RMv (w w' : World) (rb : Nat) (F : List Nat) (r : RSt) : Prop := ∃ F', Ref w' rb F' r ∧ Fr F w w' ∧ ∀ b ∈ F', b ∈ F ∨ w.heap.size ≤ b
section
variable {w w' : World} {rb : Nat} {vk vl : Value} {C : Array Value} {r : RSt} {F S : List Nat}
theorem RefT.keep (h : RefT w rb vk vl C r) (f : Fr S w w') (hS : ∀ b ∈ rb :: (fpv vk ++ fpv vl), b ∉ S) : RefT w' rb vk vl C r :=
  ⟨f.obj h.blk (hS rb (by simp)), h.rc, h.kept.keep f (fun b hb => hS b (by simp [hb])), h.accs.keep f (fun b hb => hS b (by simp [hb])), h.ln, h.nd⟩
theorem RefT.keep0 (h : RefT w rb vk vl C r) (f : Fr [] w w') : RefT w' rb vk vl C r := h.keep f (by simp)
theorem RefT.lt (h : RefT w rb vk vl C r) : ∀ b ∈ rb :: (fpv vk ++ fpv vl), b < w.heap.size := by
  intro b hb
  simp only [List.mem_cons, List.mem_append] at hb
  rcases hb with rfl | hb | hb
  · exact lt_of_block h.blk
  · exact h.kept.lt b hb
  · exact h.accs.lt b hb
theorem Ref.keep (h : Ref w rb F r) (f : Fr S w w') (hS : ∀ b ∈ F, b ∉ S) : Ref w' rb F r := by
  obtain ⟨vk, vl, C, rfl, h⟩ := h
  exact ⟨vk, vl, C, rfl, h.keep f hS⟩
theorem Ref.keep0 (h : Ref w rb F r) (f : Fr [] w w') : Ref w' rb F r := h.keep f (by simp)
theorem Ref.lt (h : Ref w rb F r) : ∀ b ∈ F, b < w.heap.size := by
  obtain ⟨vk, vl, C, rfl, h⟩ := h
  exact h.lt
/-- no block of it is one of ints -/
theorem Ref.noInts (h : Ref w rb F r) : NoInts w F := by
  obtain ⟨vk, vl, C, rfl, h⟩ := h
  intro b hb cs fr e
  simp only [List.mem_cons, List.mem_append] at hb
  rcases hb with rfl | hb | hb
  · rw [h.blk] at e
    injection e with e; injection e with _ e _
    revert e; decide
  · rcases h.kept.parts with ⟨rfl, _⟩ | ⟨b', cap, cur, rfl, hh, _⟩
    · simp [fpv, Value.ownBlock] at hb
    · simp [fpv, Value.ownBlock] at hb
      subst hb
      rw [hh] at e
      injection e with e; injection e with _ e _
      revert e; decide
  · rcases h.accs.parts with ⟨rfl, _⟩ | ⟨b', cap, cur, rfl, hh, _⟩
    · simp [fpv, Value.ownBlock] at hb
    · simp [fpv, Value.ownBlock] at hb
      subst hb
      rw [hh] at e
      injection e with e; injection e with _ e _
      revert e; decide
theorem RefT.cell (h : RefT w rb vk vl C r) (j : Nat) : w.cell? ⟨rb, j, none⟩ = C[j]? := cell_of_row _ _ _ _ _ _ h.blk
theorem RefT.free (h : RefT w rb vk vl C r) (j : Nat) : w.frozen? ⟨rb, j, none⟩ = false := frozen_of_row _ _ _ _ _ h.blk
/-- a thread's clock, whole -/
theorem RefT.loadNow (h : RefT w rb vk vl C r) {t : Nat} (ht : t < 13) : (Instr.loadAt 45 (.pointer (some ⟨rb, t * 13, none⟩))).run Try.prog w = .ok (clkV (r.now.getD t [])) w :=
  load_clk (h.ln.now t ht) (fun i hi => by rw [h.cell, h.rc.now t i ht hi])
theorem RefT.loadEn (h : RefT w rb vk vl C r) {t : Nat} (ht : t < 13) : (Instr.loadAt 45 (.pointer (some ⟨rb, 169 + t * 13, none⟩))).run Try.prog w = .ok (clkV (r.en.getD t [])) w :=
  load_clk (h.ln.en t ht) (fun i hi => by rw [h.cell, h.rc.en t i ht hi])
end

/-! ### stores into the watch's own block -/
theorem splice_get {C : Array Value} {o j : Nat} {vs : List Value} (ho : o + vs.length ≤ C.size) : (C.toList.take o ++ vs ++ C.toList.drop (o + vs.length)).toArray[j]? = if o ≤ j ∧ j < o + vs.length then vs[j - o]? else C[j]? := by
  rw [List.getElem?_toArray, List.append_assoc, List.getElem?_append]
  have hl : (C.toList.take o).length = o := by rw [List.length_take, Array.length_toList]; omega
  rw [hl]
  by_cases h1 : j < o
  · rw [if_pos h1, if_neg (by omega), List.getElem?_take, if_pos h1, Array.getElem?_toList]
  · rw [if_neg h1, List.getElem?_append]
    by_cases h2 : j - o < vs.length
    · rw [if_pos h2, if_pos ⟨by omega, by omega⟩]
    · rw [if_neg h2, if_neg (by omega), List.getElem?_drop, Array.getElem?_toList]
      congr 1
      omega
theorem splice_size {C : Array Value} {o : Nat} {vs : List Value} (ho : o + vs.length ≤ C.size) : (C.toList.take o ++ vs ++ C.toList.drop (o + vs.length)).toArray.size = C.size := by
  simp
  omega
theorem clk_get {c : List Int} {i : Nat} (hi : i < c.length) : (c.map vi)[i]? = some (vi (c.getD i 0)) := by
  rw [List.getElem?_map, List.getElem?_eq_getElem hi, List.getD, List.getElem?_eq_getElem hi]; rfl
theorem getD_set {α : Type} (l : List α) (t u : Nat) (c d : α) (ht : t < l.length) : (l.set t c).getD u d = if t = u then c else l.getD u d := by
  by_cases e : t = u
  · subst e
    rw [if_pos rfl, List.getD, List.getElem?_set_self ht]; rfl
  · rw [if_neg e, List.getD, List.getElem?_set_ne e, ← List.getD]
section
variable {w : World} {rb : Nat} {vk vl : Value} {C : Array Value} {r : RSt}
theorem RC.setNow (h : RC C r vk vl) (nl : r.now.length = 13) {t : Nat} (ht : t < 13) {c : List Int} (hc : c.length = 13) : RC (C.toList.take (t * 13) ++ c.map vi ++ C.toList.drop (t * 13 + 13)).toArray { r with now := r.now.set t c } vk vl := by
  have hl : (c.map vi).length = 13 := by rw [List.length_map, hc]
  have hs := h.sz
  have G : ∀ j, (C.toList.take (t * 13) ++ c.map vi ++ C.toList.drop (t * 13 + 13)).toArray[j]? = if t * 13 ≤ j ∧ j < t * 13 + 13 then (c.map vi)[j - t * 13]? else C[j]? := fun j => by
    have := splice_get (C := C) (o := t * 13) (j := j) (vs := c.map vi) (by rw [hl]; omega)
    rwa [hl] at this
  refine ⟨?_, fun u i hu hi => ?_, fun u i hu hi => ?_, fun u hu => ?_, ?_, ?_, ?_⟩
  · have := splice_size (C := C) (o := t * 13) (vs := c.map vi) (by rw [hl]; omega)
    rw [hl] at this
    rw [this, hs]
  · rw [G]
    simp only []
    rw [getD_set _ _ _ _ _ (by omega)]
    by_cases e : t = u
    · subst e
      rw [if_pos ⟨by omega, by omega⟩, if_pos rfl, Nat.add_sub_cancel_left, clk_get (by omega)]
    · rw [if_neg (by omega), if_neg e]; exact h.now u i hu hi
  · rw [G, if_neg (by omega)]; exact h.en u i hu hi
  · rw [G, if_neg (by omega)]; exact h.ended u hu
  · rw [G, if_neg (by omega)]; exact h.k
  · rw [G, if_neg (by omega)]; exact h.l
  · rw [G, if_neg (by omega)]; exact h.races
theorem RC.setEn (h : RC C r vk vl) (nl : r.en.length = 13) {t : Nat} (ht : t < 13) {c : List Int} (hc : c.length = 13) : RC (C.toList.take (169 + t * 13) ++ c.map vi ++ C.toList.drop (169 + t * 13 + 13)).toArray { r with en := r.en.set t c } vk vl := by
  have hl : (c.map vi).length = 13 := by rw [List.length_map, hc]
  have hs := h.sz
  have G : ∀ j, (C.toList.take (169 + t * 13) ++ c.map vi ++ C.toList.drop (169 + t * 13 + 13)).toArray[j]? = if 169 + t * 13 ≤ j ∧ j < 169 + t * 13 + 13 then (c.map vi)[j - (169 + t * 13)]? else C[j]? := fun j => by
    have := splice_get (C := C) (o := 169 + t * 13) (j := j) (vs := c.map vi) (by rw [hl]; omega)
    rwa [hl] at this
  refine ⟨?_, fun u i hu hi => ?_, fun u i hu hi => ?_, fun u hu => ?_, ?_, ?_, ?_⟩
  · have := splice_size (C := C) (o := 169 + t * 13) (vs := c.map vi) (by rw [hl]; omega)
    rw [hl] at this
    rw [this, hs]
  · rw [G, if_neg (by omega)]; exact h.now u i hu hi
  · rw [G]
    simp only []
    rw [getD_set _ _ _ _ _ (by omega)]
    by_cases e : t = u
    · subst e
      rw [if_pos ⟨by omega, by omega⟩, if_pos rfl, Nat.add_sub_cancel_left, clk_get (by omega)]
    · rw [if_neg (by omega), if_neg e]; exact h.en u i hu hi
  · rw [G, if_neg (by omega)]; exact h.ended u hu
  · rw [G, if_neg (by omega)]; exact h.k
  · rw [G, if_neg (by omega)]; exact h.l
  · rw [G, if_neg (by omega)]; exact h.races
theorem arr_set (C : Array Value) (o j : Nat) (v : Value) (ho : o < C.size) : (C.setIfInBounds o v)[j]? = if o = j then some v else C[j]? := by
  rw [Array.getElem?_setIfInBounds]
  split <;> simp_all
theorem RC.setOne (h : RC C r vk vl) (nl : r.now.length = 13) {t i : Nat} (ht : t < 13) (hi : i < 13) (hlen : (r.now.getD t []).length = 13) (x : Int) : RC (C.setIfInBounds (t * 13 + i) (vi x)) { r with now := r.now.set t ((r.now.getD t []).set i x) } vk vl := by
  have hs := h.sz
  have G := fun j => arr_set C (t * 13 + i) j (vi x) (by omega)
  refine ⟨by simp [hs], fun u k hu hk => ?_, fun u k hu hk => ?_, fun u hu => ?_, ?_, ?_, ?_⟩
  · rw [G]
    simp only []
    rw [getD_set _ _ _ _ _ (by omega)]
    by_cases e : t = u
    · subst e
      rw [if_pos rfl, getD_set _ _ _ _ _ (by omega)]
      by_cases e2 : i = k
      · subst e2; rw [if_pos rfl, if_pos rfl]
      · rw [if_neg (by omega), if_neg e2]; exact h.now t k ht hk
    · rw [if_neg (by omega), if_neg e]; exact h.now u k hu hk
  · rw [G, if_neg (by omega)]; exact h.en u k hu hk
  · rw [G, if_neg (by omega)]; exact h.ended u hu
  · rw [G, if_neg (by omega)]; exact h.k
  · rw [G, if_neg (by omega)]; exact h.l
  · rw [G, if_neg (by omega)]; exact h.races
theorem RC.setEnded (h : RC C r vk vl) (dl : r.ended.length = 13) {t : Nat} (ht : t < 13) (b : Bool) : RC (C.setIfInBounds (338 + t) (.bool b)) { r with ended := r.ended.set t b } vk vl := by
  have hs := h.sz
  have G := fun j => arr_set C (338 + t) j (.bool b) (by omega)
  refine ⟨by simp [hs], fun u k hu hk => ?_, fun u k hu hk => ?_, fun u hu => ?_, ?_, ?_, ?_⟩
  · rw [G, if_neg (by omega)]; exact h.now u k hu hk
  · rw [G, if_neg (by omega)]; exact h.en u k hu hk
  · rw [G]
    simp only []
    rw [getD_set _ _ _ _ _ (by omega)]
    by_cases e : t = u
    · subst e; rw [if_pos rfl, if_pos rfl]
    · rw [if_neg (by omega), if_neg e]; exact h.ended u hu
  · rw [G, if_neg (by omega)]; exact h.k
  · rw [G, if_neg (by omega)]; exact h.l
  · rw [G, if_neg (by omega)]; exact h.races
theorem RC.setK (h : RC C r vk vl) (v : Value) : RC (C.setIfInBounds 351 v) r v vl := by
  have hs := h.sz
  have G := fun j => arr_set C 351 j v (by omega)
  refine ⟨by simp [hs], fun u k hu hk => ?_, fun u k hu hk => ?_, fun u hu => ?_, ?_, ?_, ?_⟩
  · rw [G, if_neg (by omega)]; exact h.now u k hu hk
  · rw [G, if_neg (by omega)]; exact h.en u k hu hk
  · rw [G, if_neg (by omega)]; exact h.ended u hu
  · rw [G, if_pos rfl]
  · rw [G, if_neg (by omega)]; exact h.l
  · rw [G, if_neg (by omega)]; exact h.races
theorem RC.setL (h : RC C r vk vl) (v : Value) : RC (C.setIfInBounds 352 v) r vk v := by
  have hs := h.sz
  have G := fun j => arr_set C 352 j v (by omega)
  refine ⟨by simp [hs], fun u k hu hk => ?_, fun u k hu hk => ?_, fun u hu => ?_, ?_, ?_, ?_⟩
  · rw [G, if_neg (by omega)]; exact h.now u k hu hk
  · rw [G, if_neg (by omega)]; exact h.en u k hu hk
  · rw [G, if_neg (by omega)]; exact h.ended u hu
  · rw [G, if_neg (by omega)]; exact h.k
  · rw [G, if_pos rfl]
  · rw [G, if_neg (by omega)]; exact h.races
theorem RC.setRaces (h : RC C r vk vl) (x : Int) : RC (C.setIfInBounds 353 (vi x)) { r with races := x } vk vl := by
  have hs := h.sz
  have G := fun j => arr_set C 353 j (vi x) (by omega)
  refine ⟨by simp [hs], fun u k hu hk => ?_, fun u k hu hk => ?_, fun u hu => ?_, ?_, ?_, ?_⟩
  · rw [G, if_neg (by omega)]; exact h.now u k hu hk
  · rw [G, if_neg (by omega)]; exact h.en u k hu hk
  · rw [G, if_neg (by omega)]; exact h.ended u hu
  · rw [G, if_neg (by omega)]; exact h.k
  · rw [G, if_neg (by omega)]; exact h.l
  · rw [G, if_pos rfl]
theorem RC.kl {k : List ((Int × Int) × List Int)} {l : List Acc} (h : RC C r vk vl) : RC C { r with kept := k, l := l } vk vl := ⟨h.sz, h.now, h.en, h.ended, h.k, h.l, h.races⟩
/-- the watch's own block is written, what hangs on it is as it was -/
theorem RefT.own {w' : World} {C' : Array Value} {r' : RSt} (h : RefT w rb vk vl C r) (f : Fr [rb] w w') (hb : w'.heap[rb]? = some (.cells C' 51 (0, 0))) (hc : RC C' r' vk vl) (hk : r'.kept = r.kept) (hl : r'.l = r.l) (hn : RLen r') : RefT w' rb vk vl C' r' := by
  have nd := h.nd
  rw [List.nodup_cons] at nd
  refine ⟨hb, hc, ?_, ?_, hn, h.nd⟩
  · rw [hk]; exact h.kept.keep f (fun b hb hm => nd.1 (by rw [← List.mem_singleton.1 hm]; simp [hb]))
  · rw [hl]; exact h.accs.keep f (fun b hb hm => nd.1 (by rw [← List.mem_singleton.1 hm]; simp [hb]))
theorem RLen.setNow (h : RLen r) {t : Nat} (ht : t < 13) {c : List Int} (hc : c.length = 13) : RLen { r with now := r.now.set t c } := by
  refine { h with nl := ?_, now := fun u hu => ?_ }
  · simp [h.nl]
  · simp only []
    rw [getD_set _ _ _ _ _ (by rw [h.nl]; exact ht)]
    split
    · exact hc
    · exact h.now u hu
theorem RLen.setEn (h : RLen r) {t : Nat} (ht : t < 13) {c : List Int} (hc : c.length = 13) : RLen { r with en := r.en.set t c } := by
  refine { h with el := ?_, en := fun u hu => ?_ }
  · simp [h.el]
  · simp only []
    rw [getD_set _ _ _ _ _ (by rw [h.el]; exact ht)]
    split
    · exact hc
    · exact h.en u hu
theorem RefT.setNow (h : RefT w rb vk vl C r) {t : Nat} (ht : t < 13) {c : List Int} (hc : c.length = 13) :
    RefT (w.setRow rb (C.toList.take (t * 13) ++ c.map vi ++ C.toList.drop (t * 13 + 13)).toArray) rb vk vl (C.toList.take (t * 13) ++ c.map vi ++ C.toList.drop (t * 13 + 13)).toArray { r with now := r.now.set t c } :=
  h.own (fr_setRow rb _) (setRow_at h.blk) (h.rc.setNow h.ln.nl ht hc) rfl rfl (h.ln.setNow ht hc)
theorem RefT.setEn (h : RefT w rb vk vl C r) {t : Nat} (ht : t < 13) {c : List Int} (hc : c.length = 13) :
    RefT (w.setRow rb (C.toList.take (169 + t * 13) ++ c.map vi ++ C.toList.drop (169 + t * 13 + 13)).toArray) rb vk vl (C.toList.take (169 + t * 13) ++ c.map vi ++ C.toList.drop (169 + t * 13 + 13)).toArray { r with en := r.en.set t c } :=
  h.own (fr_setRow rb _) (setRow_at h.blk) (h.rc.setEn h.ln.el ht hc) rfl rfl (h.ln.setEn ht hc)
theorem RefT.setOne (h : RefT w rb vk vl C r) {t i : Nat} (ht : t < 13) (hi : i < 13) (x : Int) : RefT (w.setCell ⟨rb, t * 13 + i, none⟩ (vi x)) rb vk vl (C.setIfInBounds (t * 13 + i) (vi x)) { r with now := r.now.set t ((r.now.getD t []).set i x) } :=
  h.own ((Fr.refl _ _).setCell (.inl (by simp)) _) (heap_setCell_same w rb _ _ _ _ h.blk) (h.rc.setOne h.ln.nl ht hi (h.ln.now t ht) x) rfl rfl (h.ln.setNow ht (by rw [List.length_set]; exact h.ln.now t ht))
theorem RefT.setEnded (h : RefT w rb vk vl C r) {t : Nat} (ht : t < 13) (b : Bool) : RefT (w.setCell ⟨rb, 338 + t, none⟩ (.bool b)) rb vk vl (C.setIfInBounds (338 + t) (.bool b)) { r with ended := r.ended.set t b } :=
  h.own ((Fr.refl _ _).setCell (.inl (by simp)) _) (heap_setCell_same w rb _ _ _ _ h.blk) (h.rc.setEnded h.ln.dl ht b) rfl rfl { h.ln with dl := by simp [h.ln.dl] }
theorem RefT.setRaces (h : RefT w rb vk vl C r) (x : Int) : RefT (w.setCell ⟨rb, 353, none⟩ (vi x)) rb vk vl (C.setIfInBounds 353 (vi x)) { r with races := x } :=
  h.own ((Fr.refl _ _).setCell (.inl (by simp)) _) (heap_setCell_same w rb _ _ _ _ h.blk) (h.rc.setRaces x) rfl rfl { h.ln with }
end

end Go.Proofs.Ytjkakhjajfpldaa
