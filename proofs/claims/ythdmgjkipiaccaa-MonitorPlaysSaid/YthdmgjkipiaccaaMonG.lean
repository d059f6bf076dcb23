/-
  Package monitor: Exit.
-/
import Derived.Test.YthdmgjkipiaccaaMonF
import Derived.Test.YthdmgjkipiaccaaMonE2
namespace Go.Proofs.Ythdmgjkipiaccaa
open Go.RowKit

theorem overL_count (a : Int) (L : PLk) (c : Int) (cs : List ((Int × Int) × Int)) : overL a { L with count := c } cs = overL a L cs := by
  obtain ⟨o, c0, f, en, wa⟩ := L
  cases en <;> rfl

def OwnedFn (w : World) (tb : Nat) (a t : Int) (v : Value) : Prop := Calls Try.prog 27 #[ptrV tb, .int .i64 a, .int .i64 t] w fun e w' => e = .returned v ∧ w = w'
theorem owned_mon {w : World} {tb mb cb : Nat} {gs : List LkG} {cs : List ((Int × Int) × Int)} {T : PT} (h : MonT w ⟨tb, mb, cb, gs⟩ cs) (hls : T.ls = gs.map (fun g => (g.at', g.L))) (a t : Int) :
    (T.owned a t = none ∧ OwnedFn w tb a t (.pointer none)) ∨ ∃ g1 g g2, gs = g1 ++ g :: g2 ∧ T.owned a t = some g.L ∧ g.at' = a ∧ (a, g.L) ∈ T.ls ∧ 1 ≤ t ∧ g.L.owner = t ∧ OwnedFn w tb a t (ptrV g.b) := by
  cases hg : lget T.ls a with
  | none =>
    left
    have e : T.owned a t = none := by unfold PT.owned; rw [hg]
    rw [hls] at hg
    exact ⟨e, owned_none h a t (lget_gs_none hg).1⟩
  | some L =>
    have hm := lget_mem hg
    have e : T.owned a t = if t < 1 ∨ L.owner ≠ t then none else some L := by unfold PT.owned; rw [hg]
    rw [hls] at hg
    obtain ⟨g1, g, g2, rfl, hat, rfl, _, hl⟩ := lget_gs hg
    have hc := owned_some h a t g (by simp) hl
    by_cases h1 : t < 1 ∨ g.L.owner ≠ t
    · left
      rw [if_pos h1] at e hc
      exact ⟨e, hc⟩
    · right
      rw [if_neg h1] at e hc
      exact ⟨g1, g, g2, rfl, e, hat, hm, by omega, by have := fun h => h1 (.inr h); exact Decidable.of_not_not this, hc⟩

/-- behind a change of one lock, and a handing over -/
theorem OverAt.moved {w w1 w' : World} {tb mb cb : Nat} {g1 g2 : List LkG} {g gA g' : LkG} {cs cs' : List ((Int × Int) × Int)} {T : PT} {L' : PLk} (h : MonT w ⟨tb, mb, cb, g1 ++ g :: g2⟩ cs) (hls : T.ls = (g1 ++ g :: g2).map (fun g => (g.at', g.L)))
    (f1 : Fr (cb :: g.fp) w w1) (hfp : ∀ x ∈ gA.fp, x ∈ g.fp ∨ w.heap.size ≤ x) (hA : gA.at' = g.at') (o : OverAt w1 w' tb mb cb g1 g2 gA g' L' cs') {a : Int} (hat : g.at' = a) :
    Moved w w' (ptrV tb) (Lies.mk tb mb cb (g1 ++ g :: g2)).fp ⟨lput T.ls a L', cs'⟩ := by
  have hL := o.L
  rw [← hL]
  refine h.moved hls o.mon hat (o.at'.trans (hA.trans hat)) ?_ (fun x hx => ?_)
  · have f2 : Fr (cb :: g.fp) w w' := f1.trans o.fr (fun x hx => by
      rcases List.mem_cons.1 hx with h1 | h1
      · exact .inl (by simp [h1])
      · exact (hfp x h1).imp (fun h => List.mem_cons_of_mem _ h) id)
    exact f2.sub (fun x hx => by
      rcases List.mem_cons.1 hx with h1 | h1
      · exact .inl (lies_fp_mid.2 (.inr (.inr (.inr (.inl h1)))))
      · exact .inl (lies_fp_mid.2 (.inl h1)))
  · rcases o.fp x hx with h1 | h1
    · exact hfp x h1
    · exact .inr (Nat.le_trans f1.size h1)

theorem exit_any {w : World} {p : Value} {F : List Nat} {T : PT} {n : Nat} (h : Mon w p F T) (hs : T.Small n) (hn : n ≤ 100000) (a t : Int) :
    Calls Try.prog 11 #[p, .int .i64 a, .int .i64 t] w (OpPost w p F (.tuple #[.int .i64 (T.exit a t).1.1, .int .i64 (T.exit a t).1.2]) (T.exit a t).2) := by
  have HM0 := hid h
  obtain ⟨⟨tb, mb, cb, gs⟩, rfl, rfl, hls, hm⟩ := h
  simp only [] at hls HM0 ⊢
  rcases owned_mon hm hls a t with ⟨he, ho⟩ | ⟨g1, g, g2, rfl, he, hat, hmem, ht, how, ho⟩
  · have e : T.exit a t = ((0, 130), T) := by unfold PT.exit; rw [he]
    rw [e]
    have HO := hid ho
    clear he ho e hm hls hs hn
    unfold ptrV OwnedFn at *
    go_enter Try.func11, Try.ntmps11
    go_wp2_with fail
    refine HO.out.mono ?_
    rintro e w1 ⟨rfl, rfl⟩
    go_wp2_with fail
    go_ret2
    exact ⟨rfl, Moved.stay HM0.out (Fr.refl _ _)⟩
  · have hsm := hs.ls a _ hmem
    have hA := hm.lks g (by simp)
    have HND := hid (hm.ndg (g := g) (by simp))
    obtain ⟨c0, c1, c2, c3, c4⟩ := hA.c
    have u1 := hA.fr 1
    have hc1 := hsm.2.1
    have hc2 := hsm.2.2
    have A1 := hA.set 1 (.int .i64 (g.L.count - 1)) (L' := { g.L with count := g.L.count - 1 }) HND.out rfl rfl rfl
    have f1 : Fr g.fp w (w.setCell ⟨g.b, 1, none⟩ (.int .i64 (g.L.count - 1))) := LkAt.set_fr (Fr.refl _ _) 1 _
    have HO := hid ho
    have HE := hid he
    have HA1 := hid A1
    have F1 := hid f1
    have HM := hid hm
    have HL := hid hls
    have HAT := hid hat
    obtain ⟨c, hc⟩ : ∃ c, c = g.L.count := ⟨_, rfl⟩
    rw [← hc] at c1 hc1 hc2 HA1 F1
    have HC := hid hc
    have hc3 : c ≤ 100000 := by omega
    clear ho he A1 f1 hm hls hat hA hc hs hn hsm hc2 hmem how
    unfold OwnedFn ptrV at *
    go_enter Try.func11, Try.ntmps11
    go_wp2_with fail
    refine HO.out.mono ?_
    rintro e w1 ⟨rfl, rfl⟩
    have hfin : Hid (Fr (cb :: g.fp) w (w.setCell ⟨g.b, 1, none⟩ (.int .i64 (c - 1)))) := hid (F1.out.sub (fun x hx => .inl (List.mem_cons_of_mem _ hx)))
    have MA := hid (HM.out.back F1.out HA1.out rfl rfl (fun x hx => .inl hx) HND.out)
    by_cases h0 : 1 < c
    · have hb0 : decide (1 < c) = true := by simpa using h0
      have H0 := hid h0
      clear h0
      go_wp2_with fail
      go_ret2
      have e : T.exit a t = ((0, 0), { T with ls := lput T.ls a { g.L with count := g.L.count - 1 } }) := by
        unfold PT.exit; rw [HE.out]; simp only []; rw [if_pos (by rw [← HC.out]; have := H0.out; omega)]
      rw [e, ← HC.out]
      exact ⟨rfl, HM.out.moved HL.out MA.out HAT.out HAT.out (fr_mid F1.out) (fun x hx => .inl hx)⟩
    · have hb0 : decide (1 < c) = false := by simpa using h0
      have H0 := hid h0
      clear h0
      have HOV := hid (over_any MA.out a)
      rw [overL_count] at HOV
      unfold ptrV at HOV
      go_wp2_with fail
      refine HOV.out.mono ?_
      rintro e w2 ⟨rfl, g', ho⟩
      go_wp2_with fail
      go_ret2
      have e : T.exit a t = (((overL a g.L T.cs).1, 0), ⟨lput T.ls a (overL a g.L T.cs).2.1, (overL a g.L T.cs).2.2⟩) := by
        unfold PT.exit; rw [HE.out]; simp only []; rw [if_neg (by rw [← HC.out]; have := H0.out; omega)]
      rw [e]
      exact ⟨rfl, OverAt.moved (gA := { g with L := { g.L with count := c - 1 } }) HM.out HL.out hfin.out (fun x hx => .inl hx) rfl ho HAT.out⟩

end Go.Proofs.Ythdmgjkipiaccaa
