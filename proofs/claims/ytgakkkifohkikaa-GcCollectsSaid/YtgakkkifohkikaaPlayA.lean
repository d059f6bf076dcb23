/-
  An arena and the reference's beside it: what can't be had; a word written in both.
-/
import Derived.Test.YtgakkkifohkikaaRefD
import Derived.Test.YtgakkkifohkikaaOwnF
import Derived.Test.YtgakkkifohkikaaAlike
namespace Go.Proofs.Ytgakkkifohkikaa
open Go.RowKit

/-- an arena, the reference's arena beside it, other blocks A that neither touches -/
structure BothA (w0 w : World) (p q : Value) (FQ : List Nat) (n : Nat) (L M : List Ob) (A : List Nat) : Prop where
  own : OwnF w0 w p n L (FQ ++ A)
  ref : Ref w q FQ n M
  nw : ∀ b ∈ FQ, w0.heap.size ≤ b
  ap : ∀ b ∈ FQ, b ∉ A
def BA (w0 w : World) (p q : Value) (n : Nat) (L M : List Ob) (A : List Nat) : Prop := ∃ FQ, BothA w0 w p q FQ n L M A
theorem Kp.cell {A : List Nat} {w w' : World} (h : Kp A w w') {x : Addr} {v : Value} (hc : w.cell? x = some v) (hx : x.block ∈ A) : w'.cell? x = some v := by
  obtain ⟨S, f, hS⟩ := h
  exact f.cell hc (hS _ hx)
section
variable {w0 w w' : World} {p q : Value} {FQ A : List Nat} {n : Nat} {L L' M M' : List Ob}
theorem BA.own (h : BA w0 w p q n L M A) : Own w0 w p n L := by obtain ⟨_, h⟩ := h; exact h.own.own
theorem BA.fr (h : BA w0 w p q n L M A) : Fr [] w0 w := by obtain ⟨_, h⟩ := h; exact h.own.fr
theorem BA.rise (h : BA w0 w p q n L M A) : Rise n 1 L := h.own.rise
theorem BA.keep (h : BA w0 w p q n L M A) (f : Fr [] w w') : BA w0 w' p q n L M A := by
  obtain ⟨FQ, h⟩ := h
  exact ⟨FQ, h.own.keep f, h.ref.keep0 f, h.nw, h.ap⟩
theorem BA.start {b : Nat} (h : BA w0 w p q n L M []) (f : Fr [] w w') (hb : w.heap.size ≤ b) (hb2 : b < w'.heap.size) : BA w0 w' p q n L M [b] := by
  obtain ⟨FQ, h⟩ := h
  refine ⟨FQ, h.own.other f (by simp) (fun a ha => ?_), h.ref.keep0 f, h.nw, fun c hc hm => ?_⟩
  · rcases List.mem_append.1 ha with h1 | h1
    · exact ⟨.inl (by simp [h1]), Nat.lt_of_lt_of_le (h.ref.lt a h1) f.size⟩
    · rw [List.mem_singleton.1 h1]; exact ⟨.inr hb, hb2⟩
  · have := h.ref.lt c hc
    rw [List.mem_singleton.1 hm] at this
    omega
theorem BA.stop (h : BA w0 w p q n L M A) : BA w0 w p q n L M [] := by
  obtain ⟨FQ, h⟩ := h
  exact ⟨FQ, h.own.sub (fun a ha => by simp at ha; simp [ha]), h.ref, h.nw, by simp⟩
theorem BA.hm (h : BothA w0 w p q FQ n L M A) (k : OwnF w0 w' p n L' (FQ ++ A) ∧ Kp (FQ ++ A) w w') : BA w0 w' p q n L' M A ∧ Kp A w w' := by
  obtain ⟨k1, S, f, hS⟩ := k
  exact ⟨⟨FQ, k1, h.ref.keep f (fun b hb => hS b (List.mem_append_left _ hb)), h.nw, h.ap⟩, S, f, fun a ha => hS a (List.mem_append_right _ ha)⟩
theorem BA.rm (h : BothA w0 w p q FQ n L M A) (k : RMoved w w' q FQ n M') : BA w0 w' p q n L M' A ∧ Kp A w w' := by
  obtain ⟨F', k1, f, hF⟩ := k
  have hlt := h.own.lt
  refine ⟨⟨F', h.own.other f (fun x hx => ⟨.inl (List.mem_append_left _ hx), h.nw x hx⟩) (fun a ha => ?_), k1, fun b hb => ?_, fun b hb hv => ?_⟩, FQ, f, fun a ha hm => h.ap a hm ha⟩
  · rcases List.mem_append.1 ha with h1 | h1
    · refine ⟨?_, k1.lt a h1⟩
      rcases hF a h1 with h2 | h2
      · exact .inl (List.mem_append_left _ h2)
      · exact .inr h2
    · exact ⟨.inl (List.mem_append_right _ h1), Nat.lt_of_lt_of_le (hlt a (List.mem_append_right _ h1)) f.size⟩
  · rcases hF b hb with h2 | h2
    · exact h.nw b h2
    · exact Nat.le_trans h.own.fr.size h2
  · rcases hF b hb with h2 | h2
    · exact h.ap b h2 hv
    · have := hlt b (List.mem_append_right _ hv); omega
theorem BA.halloc (h : BA w0 w p q n L M A) (c k : Nat) (hc : (c : Int) ≤ 9223372036854775807) {x : Nat} (e : arAlloc n L c k = some (x, L')) :
    Calls Try.prog 14 #[p, .int .i64 c, .int .i64 k] w fun e w' => e = .returned (.tuple #[.int .i64 x, .int .i64 0]) ∧ BA w0 w' p q n L' M A ∧ Kp A w w' := by
  obtain ⟨FQ, h⟩ := h
  refine (h.own.alloc c k hc e).mono ?_
  rintro e w' ⟨rfl, k⟩
  exact ⟨rfl, BA.hm h k⟩
theorem BA.halloc_no (h : BA w0 w p q n L M A) (c k : Nat) (hc : (c : Int) ≤ 9223372036854775807) (e : arAlloc n L c k = none) :
    Calls Try.prog 14 #[p, .int .i64 c, .int .i64 k] w fun e w' => e = .returned (.tuple #[.int .i64 0, .int .i64 110]) ∧ BA w0 w' p q n L M A ∧ Kp A w w' := by
  obtain ⟨FQ, h⟩ := h
  refine (h.own.alloc_no c k hc e).mono ?_
  rintro e w' ⟨rfl, k⟩
  exact ⟨rfl, BA.hm h k⟩
theorem BA.halloc_bad (h : BA w0 w p q n L M A) (c k : Int) (hck : c < 0 ∨ k < 0) :
    Calls Try.prog 14 #[p, .int .i64 c, .int .i64 k] w fun e w' => e = .returned (.tuple #[.int .i64 0, .int .i64 111]) ∧ BA w0 w' p q n L M A ∧ Kp A w w' := by
  obtain ⟨FQ, h⟩ := h
  obtain ⟨F, h1, h2, h3⟩ := h.own.ex
  refine (_root_.Go.Proofs.Ytgakkkifohkikaa.alloc_bad h1 c k hck).mono ?_
  rintro e w' hp
  exact ⟨hp.1, BA.hm h (OwnF.moved hp.2 h.own.fr h2 h3 h.own.lt)⟩
theorem BA.hrelease (h : BA w0 w p q n L M A) (x : Int) :
    Calls Try.prog 15 #[p, .int .i64 x] w fun e w' => e = .returned (.int .i64 (relE L x)) ∧ BA w0 w' p q n (relL L x) M A ∧ Kp A w w' := by
  obtain ⟨FQ, h⟩ := h
  refine (h.own.release x).mono ?_
  rintro e w' ⟨rfl, k⟩
  exact ⟨rfl, BA.hm h k⟩
theorem BA.hput (h : BA w0 w p q n L M A) (x i u : Int) :
    Calls Try.prog 20 #[p, .int .i64 x, .int .i64 i, .int .u64 u] w fun e w' => e = .returned (.int .i64 (putE L x i)) ∧ BA w0 w' p q n (putL L x i u) M A ∧ Kp A w w' := by
  obtain ⟨FQ, h⟩ := h
  refine (h.own.put x i u).mono ?_
  rintro e w' ⟨rfl, k⟩
  exact ⟨rfl, BA.hm h k⟩
theorem BA.ralloc (h : BA w0 w p q n L M A) (c k : Nat) {x : Nat} (e : arAlloc n M c k = some (x, M')) :
    Calls Try.prog 24 #[q, .int .i64 c, .int .i64 k] w fun e w' => e = .returned (.tuple #[.int .i64 x, .int .i64 0]) ∧ BA w0 w' p q n L M' A ∧ Kp A w w' := by
  obtain ⟨FQ, h⟩ := h
  refine (ralloc_some h.ref c k e).mono ?_
  rintro e w' ⟨rfl, k⟩
  exact ⟨rfl, BA.rm h k⟩
theorem BA.ralloc_no (h : BA w0 w p q n L M A) (c k : Nat) (e : arAlloc n M c k = none) :
    Calls Try.prog 24 #[q, .int .i64 c, .int .i64 k] w fun e w' => e = .returned (.tuple #[.int .i64 0, .int .i64 110]) ∧ BA w0 w' p q n L M A ∧ Kp A w w' := by
  have h0 := h
  obtain ⟨FQ, h⟩ := h
  have hp : place k (gaps n 1 M) = none := by
    unfold arAlloc at e
    cases hp : place k (gaps n 1 M) with
    | none => rfl
    | some x => rw [hp] at e; cases e
  refine (ralloc_none h.ref c k hp).mono ?_
  rintro e w' ⟨rfl, f⟩
  exact ⟨rfl, h0.keep f, Kp.of0 f⟩
theorem BA.ralloc_bad (h : BA w0 w p q n L M A) (c k : Int) (hck : c < 0 ∨ k < 0) :
    Calls Try.prog 24 #[q, .int .i64 c, .int .i64 k] w fun e w' => e = .returned (.tuple #[.int .i64 0, .int .i64 111]) ∧ BA w0 w' p q n L M A ∧ Kp A w w' := by
  have h0 := h
  obtain ⟨FQ, h⟩ := h
  refine (_root_.Go.Proofs.Ytgakkkifohkikaa.ralloc_bad h.ref c k hck).mono ?_
  rintro e w' ⟨rfl, rfl⟩
  exact ⟨rfl, h0, Kp.refl _ _⟩
theorem BA.rrelease (h : BA w0 w p q n L M A) (x : Int) :
    Calls Try.prog 25 #[q, .int .i64 x] w fun e w' => e = .returned (.int .i64 (relE M x)) ∧ BA w0 w' p q n L (relL M x) A ∧ Kp A w w' := by
  obtain ⟨FQ, h⟩ := h
  refine (rrelease_any h.ref x).mono ?_
  rintro e w' ⟨rfl, k⟩
  exact ⟨rfl, BA.rm h k⟩
theorem BA.rfind (h : BA w0 w p q n L M A) (x : Int) : Calls Try.prog 26 #[q, .int .i64 x] w (RFindPost w M x) := by
  obtain ⟨FQ, h⟩ := h
  exact rfind_any h.ref x
theorem BA.alike (h : BA w0 w p q n L L A) : Calls Try.prog 27 #[p, q] w fun e w' => e = .returned (.bool true) ∧ Fr [] w w' := by
  obtain ⟨FQ, h⟩ := h
  obtain ⟨F, h1, h2, h3⟩ := h.own.ex
  exact alike_any h1 h.ref
end

theorem putObs_split {n a : Nat} {L1 L2 : List Ob} {o : Ob} (h : Rise n a (L1 ++ o :: L2)) (k : Nat) (v : Int) : putObs (L1 ++ o :: L2) o.at' k v = L1 ++ o.put k v :: L2 := by
  have hs := h.neq
  rw [List.pairwise_append, List.pairwise_cons] at hs
  obtain ⟨_, ⟨s1, _⟩, s3⟩ := hs
  unfold putObs
  rw [List.map_append, List.map_cons, if_pos rfl]
  have d1 : ∀ q ∈ L1, (if (q.at' : Int) = o.at' then q.put k v else q) = q := fun q hq => by
    have := s3 q hq o List.mem_cons_self
    rw [if_neg (by omega)]
  have d2 : ∀ q ∈ L2, (if (q.at' : Int) = o.at' then q.put k v else q) = q := fun q hq => by
    have := s1 q hq
    rw [if_neg (by omega)]
  rw [List.map_congr_left d1, List.map_congr_left d2, List.map_id', List.map_id']
theorem rput_moved {w : World} {rb n bw cw k : Nat} {vl : Value} {G1 G2 : List (Ob × Value)} {o : Ob} (h : RefT w rb vl (G1 ++ (o, .slice (some ⟨bw, 0, none⟩) o.ws.length cw) :: G2) n) (_hk : k < o.ws.length) (v : Int) :
    RMoved w (w.setCell ⟨bw, k, none⟩ (vu v)) (ptrV rb) (rb :: (fpv vl ++ fpG (G1 ++ (o, .slice (some ⟨bw, 0, none⟩) o.ws.length cw) :: G2))) n (putObs ((G1 ++ (o, .slice (some ⟨bw, 0, none⟩) o.ws.length cw) :: G2).map (·.1)) o.at' k v) := by
  have hfp : fpv (.slice (some ⟨bw, 0, none⟩) o.ws.length cw) = [bw] := by simp [fpv, Value.ownBlock]
  have hG : ∀ o' : Ob, fpG (G1 ++ (o', (.slice (some ⟨bw, 0, none⟩) o.ws.length cw : Value)) :: G2) = fpG G1 ++ bw :: fpG G2 := fun o' => by
    unfold fpG
    rw [List.flatMap_append, List.flatMap_cons, hfp]; rfl
  have hnd := h.nd
  rw [hG, List.nodup_cons, List.nodup_append] at hnd
  obtain ⟨n1, n2, n3, n4⟩ := hnd
  have hbr : bw ≠ rb := fun e => n1 (by simp [e])
  have hbl : bw ∉ fpv vl := fun hm => n4 bw hm bw (by simp) rfl
  have hb1 : bw ∉ fpG G1 := fun hm => by
    rw [List.nodup_append] at n3
    exact n3.2.2 bw hm bw (by simp) rfl
  have hb2 : bw ∉ fpG G2 := fun hm => by
    rw [List.nodup_append, List.nodup_cons] at n3
    exact n3.2.1.1 hm
  have f : Fr [bw] w (w.setCell ⟨bw, k, none⟩ (vu v)) := (Fr.refl _ w).setCell (.inl (by simp)) _
  have hrise := h.rise
  rw [List.map_append, List.map_cons] at hrise
  have hput := putObs_split hrise k v
  have hmap : (G1 ++ (o.put k v, (.slice (some ⟨bw, 0, none⟩) o.ws.length cw : Value)) :: G2).map (·.1) = putObs ((G1 ++ (o, (.slice (some ⟨bw, 0, none⟩) o.ws.length cw : Value)) :: G2).map (·.1)) o.at' k v := by
    rw [List.map_append, List.map_cons, List.map_append, List.map_cons, hput]
  have hlen : (o.put k v).ws.length = o.ws.length := by simp [Ob.put]
  refine ⟨_, ⟨rb, vl, G1 ++ (o.put k v, .slice (some ⟨bw, 0, none⟩) o.ws.length cw) :: G2, rfl, hmap.symm, rfl, ?_⟩, ?_, fun x hx => ?_⟩
  · refine ⟨f.obj h.blk (by simpa using fun e => hbr e.symm), ?_, fun g hg => ?_, ?_, h.small, ?_⟩
    · have e1 : refL (G1 ++ (o.put k v, (.slice (some ⟨bw, 0, none⟩) o.ws.length cw : Value)) :: G2) = refL (G1 ++ (o, (.slice (some ⟨bw, 0, none⟩) o.ws.length cw : Value)) :: G2) := by
        rw [refL_append, refL_cons, refL_append, refL_cons]; rfl
      have e2 : (G1 ++ (o.put k v, (.slice (some ⟨bw, 0, none⟩) o.ws.length cw : Value)) :: G2).length = (G1 ++ (o, (.slice (some ⟨bw, 0, none⟩) o.ws.length cw : Value)) :: G2).length := by simp
      rw [e1, e2]
      exact h.ob.keep f (fun b hb hm => hbl (List.mem_singleton.1 hm ▸ hb))
    · rcases List.mem_append.1 hg with h1 | h1
      · exact (h.ws g (by simp [h1])).keep f (fun b hb hm => hb1 (mem_fpG.2 ⟨g, h1, List.mem_singleton.1 hm ▸ hb⟩))
      · rcases List.mem_cons.1 h1 with rfl | h1
        · have hw := h.ws (o, .slice (some ⟨bw, 0, none⟩) o.ws.length cw) (by simp)
          rcases hw.parts with ⟨e, _⟩ | ⟨b', cap', cur, e, hh, hl, hc, hs, ht⟩
          · cases e
          · cases e
            simp only at hl ht ⊢
            rw [hlen]
            refine RV.mk (heap_setCell_same w bw k cur _ (vu v) hh) hl hc (by simpa using hs) ?_
            rw [Array.toList_setIfInBounds, List.take_set, ht]
            unfold vus
            show (o.ws.map vu).set k (vu v) = ((o.ws.set k v).map vu)
            rw [List.map_set]
        · exact (h.ws g (by simp [h1])).keep f (fun b hb hm => hb2 (mem_fpG.2 ⟨g, h1, List.mem_singleton.1 hm ▸ hb⟩))
    · rw [hmap]
      exact ((putObs_gaps n (o.at' : Int) k v 1 _).2).2 h.rise
    · have := h.nd
      rw [hG] at this ⊢
      exact this
  · exact f.sub (fun x hx => .inl (by rw [List.mem_singleton.1 hx, hG]; simp))
  · rw [hG] at hx ⊢
    exact .inl hx

end Go.Proofs.Ytgakkkifohkikaa
