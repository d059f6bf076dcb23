/-
  GcCollects: what marking and collecting do to both arenas and what lies beside them.
-/
import Derived.Test.YtgakkkifohkikaaSto
import Derived.Test.YtgakkkifohkikaaMarkA
namespace Go.Proofs.Ytgakkkifohkikaa
open Go.RowKit

section
variable {W w w' : World} {p q : Value} {n : Nat} {L L' M M' : List Ob} {is : List It} {i i' x : It}
/-- the first item is another one, and there is one more, wholly new -/
theorem Sto.turn2 (h : Sto W w p q n L M (i :: is)) (f : Fr i.bl w w') (hr : i'.ok w') (hv : ∀ b ∈ i'.bl, b ∈ i.bl ∨ w.heap.size ≤ b) (hx : x.ok w') (hxv : ∀ b ∈ x.bl, w.heap.size ≤ b ∧ b ∉ i'.bl) : Sto W w' p q n L M (i' :: (is ++ [x])) := by
  have hap := h.ap
  rw [List.pairwise_cons] at hap
  obtain ⟨a1, a2⟩ := hap
  have hlt : ∀ u ∈ i :: is, ∀ b ∈ u.bl, b < w.heap.size := fun u hu b hb => It.lt (h.ok u hu) b hb
  have hin : ∀ u ∈ i :: is, ∀ b ∈ u.bl, b ∈ blI (i :: is) := fun u hu b hb => mem_blI.2 ⟨u, hu, hb⟩
  refine ⟨h.ba.other f (fun y hy => ⟨.inl (hin i (by simp) y hy), h.nw y (hin i (by simp) y hy)⟩) (fun a ha => ?_), fun u hu => ?_, fun b hb => ?_, ?_⟩
  · obtain ⟨u, hu, hb⟩ := mem_blI.1 ha
    rcases List.mem_cons.1 hu with rfl | hu
    · refine ⟨?_, It.lt hr a hb⟩
      rcases hv a hb with h1 | h1
      · exact .inl (hin i (by simp) a h1)
      · exact .inr h1
    · rcases List.mem_append.1 hu with hu | hu
      · exact ⟨.inl (hin u (by simp [hu]) a hb), Nat.lt_of_lt_of_le (hlt u (by simp [hu]) a hb) f.size⟩
      · rw [List.mem_singleton.1 hu] at hb
        exact ⟨.inr (hxv a hb).1, It.lt hx a hb⟩
  · rcases List.mem_cons.1 hu with rfl | hu
    · exact hr
    · rcases List.mem_append.1 hu with hu | hu
      · exact It.keep (h.ok u (by simp [hu])) f (fun b hb hm => a1 u hu b hm hb)
      · rw [List.mem_singleton.1 hu]; exact hx
  · obtain ⟨u, hu, hb⟩ := mem_blI.1 hb
    rcases List.mem_cons.1 hu with hu | hu
    · rw [hu] at hb
      rcases hv b hb with h1 | h1
      · exact h.nw b (hin i (by simp) b h1)
      · exact Nat.le_trans h.fr.size h1
    · rcases List.mem_append.1 hu with hu | hu
      · exact h.nw b (hin u (by simp [hu]) b hb)
      · rw [List.mem_singleton.1 hu] at hb
        exact Nat.le_trans h.fr.size (hxv b hb).1
  · rw [List.pairwise_cons, List.pairwise_append]
    refine ⟨fun u hu b hb hm => ?_, a2, by simp, fun u hu y hy b hb hm => ?_⟩
    · rcases List.mem_append.1 hu with hu | hu
      · rcases hv b hb with h1 | h1
        · exact a1 u hu b h1 hm
        · have := hlt u (by simp [hu]) b hm; omega
      · rw [List.mem_singleton.1 hu] at hm
        exact (hxv b hm).2 hb
    · rw [List.mem_singleton.1 hy] at hm
      have := hlt u (by simp [hu]) b hb
      have := (hxv b hm).1
      omega
/-- three boxes are one item -/
theorem Sto.three {ab fb tb : Nat} {va vf vt : Value} {fs ts s : List Int} (h : Sto W w p q n L M (.box ab va s :: .box fb vf fs :: .box tb vt ts :: is)) : Sto W w p q n L M (.co ab fb tb va vf vt fs ts s :: is) := by
  have hap := h.ap
  rw [List.pairwise_cons, List.pairwise_cons, List.pairwise_cons] at hap
  obtain ⟨a1, a2, a3, a4⟩ := hap
  have b1 : w.heap[ab]? = some (.cells #[va] 31 (0, 0)) ∧ RI w va s ∧ ab ∉ fpv va := h.ok (.box ab va s) (by simp)
  have b2 : w.heap[fb]? = some (.cells #[vf] 31 (0, 0)) ∧ RI w vf fs ∧ fb ∉ fpv vf := h.ok (.box fb vf fs) (by simp)
  have b3 : w.heap[tb]? = some (.cells #[vt] 31 (0, 0)) ∧ RI w vt ts ∧ tb ∉ fpv vt := h.ok (.box tb vt ts) (by simp)
  have c1 := a1 (.box fb vf fs) (by simp)
  have c2 := a1 (.box tb vt ts) (by simp)
  have c3 := a2 (.box tb vt ts) (by simp)
  simp only [It.bl] at c1 c2 c3
  have hnv : ∀ {v : Value} {l : List Int}, RI w v l → (fpv v).Nodup := fun h => by
    obtain ⟨a', c', e, _⟩ := h.form
    rw [e]
    cases a' <;> simp [fpv, Value.ownBlock]
  have hmem : ∀ b, b ∈ (It.co ab fb tb va vf vt fs ts s).bl ↔ b ∈ (It.box ab va s).bl ∨ b ∈ (It.box fb vf fs).bl ∨ b ∈ (It.box tb vt ts).bl := fun b => by
    simp only [It.bl, List.mem_cons, List.mem_append]
    constructor
    · rintro (h | h | h | h | h | h)
      · exact .inl (.inl h)
      · exact .inr (.inl (.inl h))
      · exact .inr (.inr (.inl h))
      · exact .inl (.inr h)
      · exact .inr (.inl (.inr h))
      · exact .inr (.inr (.inr h))
    · rintro ((h | h) | (h | h) | (h | h))
      · exact .inl h
      · exact .inr (.inr (.inr (.inl h)))
      · exact .inr (.inl h)
      · exact .inr (.inr (.inr (.inr (.inl h))))
      · exact .inr (.inr (.inl h))
      · exact .inr (.inr (.inr (.inr (.inr h))))
  have hbl : ∀ b, b ∈ blI (.co ab fb tb va vf vt fs ts s :: is) → b ∈ blI (.box ab va s :: .box fb vf fs :: .box tb vt ts :: is) := fun b hb => by
    obtain ⟨u, hu, hb⟩ := mem_blI.1 hb
    rcases List.mem_cons.1 hu with rfl | hu
    · rcases (hmem b).1 hb with h1 | h1 | h1
      · exact mem_blI.2 ⟨_, by simp, h1⟩
      · exact mem_blI.2 ⟨.box fb vf fs, by simp, h1⟩
      · exact mem_blI.2 ⟨.box tb vt ts, by simp, h1⟩
    · exact mem_blI.2 ⟨u, by simp [hu], hb⟩
  refine ⟨h.ba.other (Fr.refl [] w) (by simp) (fun a ha => ⟨.inl (hbl a ha), ?_⟩), fun u hu => ?_, fun b hb => h.nw b (hbl b hb), ?_⟩
  · obtain ⟨u, hu, hb⟩ := mem_blI.1 (hbl a ha)
    exact It.lt (h.ok u hu) a hb
  · rcases List.mem_cons.1 hu with rfl | hu
    · refine ⟨b1.1, b2.1, b3.1, b1.2.1, b2.2.1, b3.2.1, ?_⟩
      simp only [List.nodup_cons, List.nodup_append, List.mem_cons, List.mem_append, not_or]
      refine ⟨⟨fun e => c1 ab (by simp) (by simp [e]), fun e => c2 ab (by simp) (by simp [e]), b1.2.2, fun hm => c1 ab (by simp) (by simp [hm]), fun hm => c2 ab (by simp) (by simp [hm])⟩,
        ⟨fun e => c3 fb (by simp) (by simp [e]), fun hm => c1 fb (by simp [hm]) (by simp), b2.2.2, fun hm => c3 fb (by simp) (by simp [hm])⟩,
        ⟨fun hm => c2 tb (by simp [hm]) (by simp), fun hm => c3 tb (by simp [hm]) (by simp), b3.2.2⟩, hnv b1.2.1, ⟨hnv b2.2.1, hnv b3.2.1, fun x hx y hy e => ?_⟩, fun x hx y hy e => ?_⟩
      · subst e; exact c3 x (by simp [hx]) (by simp [hy])
      · subst e
        rcases hy with hy | hy
        · exact c1 x (by simp [hx]) (by simp [hy])
        · exact c2 x (by simp [hx]) (by simp [hy])
    · exact h.ok u (by simp [hu])
  · rw [List.pairwise_cons]
    refine ⟨fun u hu b hb hm => ?_, a4⟩
    rcases (hmem b).1 hb with h1 | h1 | h1
    · exact a1 u (by simp [hu]) b h1 hm
    · exact a2 u (by simp [hu]) b h1 hm
    · exact a3 u hu b h1 hm
end

/-- the reference's row of objects lies where it lay -/
def SameR (q : Value) (w w' : World) : Prop := ∀ rb v, q = .pointer (some ⟨rb, 0, none⟩) → w.cell? ⟨rb, 1, none⟩ = some v → w'.cell? ⟨rb, 1, none⟩ = some v
theorem SameR.of {w0 w w' : World} {p q : Value} {FQ A S : List Nat} {n : Nat} {L M : List Ob} (h : BothA w0 w p q FQ n L M A) (f : Fr S w w') (hS : ∀ b ∈ FQ, b ∉ S) : SameR q w w' := fun rb v e hc => by
  obtain ⟨rb', vl, G, e', _, hF, _⟩ := h.ref
  rw [e] at e'
  cases e'
  exact f.cell hc (hS rb (by rw [hF]; simp))
def StoMark (W : World) (p q : Value) (n : Nat) (L M : List Ob) (ab fb tb : Nat) (vf vt : Value) (fs ts s roots : List Int) (is : List It) (w : World) (e : Ending) (w' : World) : Prop :=
  ∃ v met va', e = .returned v ∧ SameR q w w' ∧ met.Nodup ∧ (∀ a, a ∈ met ↔ Reach L roots (collR fs ts) a) ∧ Sto W w' p q n L M (.co ab fb tb va' vf vt fs ts (s ++ met) :: (is ++ [.sl v (sortI met)]))
def StoColl (W : World) (p q : Value) (n : Nat) (L M : List Ob) (ab fb tb : Nat) (vf vt : Value) (fs ts s roots : List Int) (is : List It) (w : World) (e : Ending) (w' : World) : Prop :=
  ∃ met va', e = .returned (.int .i64 (unmet met L L.length : Nat)) ∧ SameR q w w' ∧ met.Nodup ∧ (∀ a, a ∈ met ↔ Reach L roots (collR fs ts) a) ∧ Sto W w' p q n (kept met L) M (.co ab fb tb va' vf vt fs ts (s ++ met) :: is)
section
variable {W w : World} {p q : Value} {n : Nat} {L M : List Ob} {is : List It} {ab fb tb : Nat} {va vf vt vr : Value} {fs ts s roots : List Int}
theorem collR_len (a : Int) (hb : fs.length ≤ 90) : (collR fs ts a).length ≤ 100 := by
  have := edR_len fs ts a
  unfold collR
  simp only [List.length_cons]
  omega
theorem Sto.mark (h : Sto W w p q n L M (.co ab fb tb va vf vt fs ts s :: is)) (hl : fs.length = ts.length) (hb : fs.length ≤ 90) (hr : It.sl vr roots ∈ is) (hrl : roots.length ≤ 1000) (hsl : s.length ≤ 1000) :
    Calls Try.prog 37 #[p, vr, .func (.func 38) #[] #[.pointer (some ⟨ab, 0, none⟩), .pointer (some ⟨fb, 0, none⟩), .pointer (some ⟨tb, 0, none⟩)]] w (StoMark W p q n L M ab fb tb vf vt fs ts s roots is w) := by
  obtain ⟨FQ, hba⟩ := h.ba
  obtain ⟨F, k1, k2, k3⟩ := hba.own.ex
  have hc : CoC ab fb tb vf vt fs ts s w (ab :: fb :: tb :: (fpv va ++ (fpv vf ++ fpv vt))) := ⟨va, rfl, h.ok (.co ab fb tb va vf vt fs ts s) (by simp)⟩
  have hO : ∀ b ∈ ab :: fb :: tb :: (fpv va ++ (fpv vf ++ fpv vt)), b ∈ blI (.co ab fb tb va vf vt fs ts s :: is) := fun b hb => mem_blI.2 ⟨_, List.mem_cons_self, hb⟩
  refine (mark_any k1 (coll_clo L hl hb) (h.slc (List.mem_cons_of_mem _ hr)) hc (fun b hb => k3 b (List.mem_append_right _ (hO b hb))) (fun a _ => collR_len a hb) hrl hsl).mono ?_
  rintro e w' ⟨v, met, O', rfl, hv, nd, hm, ⟨va', rfl, hcb⟩, f, hn, hvn⟩
  exact ⟨v, met, va', rfl, SameR.of hba f (fun b hb hm => hba.ap b hb (hO b hm)), nd, hm, h.turn2 (i := .co ab fb tb va vf vt fs ts s) (i' := .co ab fb tb va' vf vt fs ts (s ++ met)) (x := .sl v (sortI met)) f hcb hn hv hvn⟩
theorem Sto.collect (h : Sto W w p q n L M (.co ab fb tb va vf vt fs ts s :: is)) (hl : fs.length = ts.length) (hb : fs.length ≤ 90) (hr : It.sl vr roots ∈ is) (hrl : roots.length ≤ 1000) (hsl : s.length ≤ 1000) :
    Calls Try.prog 33 #[p, vr, .func (.func 38) #[] #[.pointer (some ⟨ab, 0, none⟩), .pointer (some ⟨fb, 0, none⟩), .pointer (some ⟨tb, 0, none⟩)]] w (StoColl W p q n L M ab fb tb vf vt fs ts s roots is w) := by
  obtain ⟨FQ, hba⟩ := h.ba
  obtain ⟨O, hOe⟩ : ∃ O, O = ab :: fb :: tb :: (fpv va ++ (fpv vf ++ fpv vt)) := ⟨_, rfl⟩
  have hc : CoC ab fb tb vf vt fs ts s w O := ⟨va, hOe, h.ok (.co ab fb tb va vf vt fs ts s) (by simp)⟩
  have hbl : blI (.co ab fb tb va vf vt fs ts s :: is) = O ++ blI is := by rw [hOe]; rfl
  have hap := h.ap
  rw [List.pairwise_cons] at hap
  obtain ⟨a1, a2⟩ := hap
  have hOI : ∀ b ∈ blI is, b ∉ O := fun b hb hm => by
    obtain ⟨u, hu, hb⟩ := mem_blI.1 hb
    exact a1 u hu b (by rw [hOe] at hm; exact hm) hb
  have hown : OwnF W w p n L (O ++ (FQ ++ blI is)) := hba.own.sub (fun a ha => by
    rw [hbl]
    simp only [List.mem_append] at ha ⊢
    rcases ha with h1 | h1 | h1
    · exact .inr (.inl h1)
    · exact .inl h1
    · exact .inr (.inr h1))
  refine (collect_any hown (coll_clo L hl hb) (h.slc (List.mem_cons_of_mem _ hr)) hc (fun b hb => h.nw b (by rw [hbl]; exact List.mem_append_left _ hb)) (fun a ha hm => ?_) (fun a _ => collR_len a hb) hrl hsl).mono ?_
  · rcases List.mem_append.1 ha with h1 | h1
    · exact hba.ap a h1 (by rw [hbl]; exact List.mem_append_left _ hm)
    · exact hOI a h1 hm
  · rintro e w' ⟨met, O', rfl, hown', hk, nd, hm, ⟨va', hO', hcb⟩, hn, hA, hsz⟩
    have hbl' : blI (.co ab fb tb va' vf vt fs ts (s ++ met) :: is) = O' ++ blI is := by rw [hO']; rfl
    obtain ⟨S, f, hS⟩ := hk
    refine ⟨met, va', rfl, SameR.of hba f (fun b hb => hS b (List.mem_append_left _ hb)), nd, hm, ⟨FQ, hown'.sub (fun a ha => ?_), hba.ref.keep f (fun b hb => hS b (List.mem_append_left _ hb)), hba.nw, fun b hb hm => ?_⟩, fun u hu => ?_, fun b hb => ?_, ?_⟩
    · rw [hbl'] at ha
      simp only [List.mem_append] at ha ⊢
      rcases ha with h1 | h1 | h1
      · exact .inr (.inl h1)
      · exact .inl h1
      · exact .inr (.inr h1)
    · rw [hbl'] at hm
      rcases List.mem_append.1 hm with h1 | h1
      · exact hA b (List.mem_append_left _ hb) h1
      · exact hba.ap b hb (by rw [hbl]; exact List.mem_append_right _ h1)
    · rcases List.mem_cons.1 hu with rfl | hu
      · exact hcb
      · exact It.keep (h.ok u (by simp [hu])) f (fun b hb => hS b (List.mem_append_right _ (mem_blI.2 ⟨u, hu, hb⟩)))
    · rw [hbl'] at hb
      rcases List.mem_append.1 hb with h1 | h1
      · rcases hn b h1 with h2 | h2
        · exact h.nw b (by rw [hbl]; exact List.mem_append_left _ h2)
        · exact Nat.le_trans h.fr.size h2
      · exact h.nw b (by rw [hbl]; exact List.mem_append_right _ h1)
    · rw [List.pairwise_cons]
      refine ⟨fun u hu b hb hm => ?_, a2⟩
      have hb' : b ∈ O' := by rw [hO']; exact hb
      exact hA b (List.mem_append_right _ (mem_blI.2 ⟨u, hu, hm⟩)) hb'
end

end Go.Proofs.Ytgakkkifohkikaa
