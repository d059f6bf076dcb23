/-
  MonitorPlays: the document's owned.
  MonitorPlays: the document's Exit.
-/
import Derived.Test.YthdmgjkipiaccaaRefX
namespace Go.Proofs.Ythdmgjkipiaccaa
open Go.RowKit

theorem rixI_no {R : List RL} {a : Int} (h : ¬ rix R a < R.length) : rixI R a = -1 := by unfold rixI; rw [if_neg h]
theorem rixI_at {R : List RL} {a : Int} (h : rix R a < R.length) : rixI R a = rix R a := by unfold rixI; rw [if_pos h]
theorem rOwned_no {R : List RL} {a t : Int} (h : ¬ rix R a < R.length) : rOwned R a t = none := by unfold rOwned; rw [if_neg (fun k => h k.1)]
theorem rOwned_low {R : List RL} {a t : Int} (h : t < 1) : rOwned R a t = none := by unfold rOwned; rw [if_neg (fun k => by omega)]
theorem rOwned_at {G : List RG} {a t : Int} (h : rix (G.map RG.x) a < G.length) (ht : 1 ≤ t) : rOwned (G.map RG.x) a t = if G[rix (G.map RG.x) a].x.owner = t then some (rix (G.map RG.x) a) else none := by
  unfold rOwned
  have e : ((G.map RG.x).getD (rix (G.map RG.x) a) (RL.zero a)).owner = G[rix (G.map RG.x) a].x.owner := by
    rw [List.getD_eq_getElem?_getD, List.getElem?_map, List.getElem?_eq_getElem h]
    rfl
  rw [e, List.length_map]
  by_cases h1 : G[rix (G.map RG.x) a].x.owner = t
  · rw [if_pos ⟨h, ht, h1⟩, if_pos h1]
  · rw [if_neg (fun k => h1 k.2.2), if_neg h1]
def OwnV (v : Value) (r : Option Nat) (e : Ending) : Prop :=
  match r with
  | none => e = .returned (.pointer none)
  | some i => ∃ b cap n, v = .slice (some ⟨b, 0, none⟩) n cap ∧ e = .returned (.pointer (some ⟨b, i * 6, none⟩))

set_option maxHeartbeats 1000000 in
theorem downed_any {w : World} {tb : Nat} {v : Value} {G : List RG} (h : DocT w tb v G) (hk : G.length ≤ 1000) (a t : Int) : Calls Try.prog 35 #[.pointer (some ⟨tb, 0, none⟩), .int .i64 a, .int .i64 t] w fun e w' => OwnV v (rOwned (G.map RG.x) a t) e ∧ Fr [] w w' := by
  have HC := hid (dfind_any h hk a)
  obtain ⟨i, hi⟩ : ∃ i, i = rix (G.map RG.x) a := ⟨_, rfl⟩
  by_cases hl : i < G.length
  · have hr : rixI (G.map RG.x) a = (i : Int) := by rw [rixI_at (by rw [← hi, List.length_map]; exact hl), ← hi]
    rw [hr] at HC
    have HD := hid h
    have hi0 : (0 : Int) ≤ i := by omega
    by_cases ht : 1 ≤ t
    · have ho := rOwned_at (G := G) (a := a) (t := t) (by rw [← hi]; exact hl) ht
      obtain ⟨b, cap, e, q0, q1, _, _, _, _, fz⟩ := h.lock hl
      have c1 := h.tbl
      obtain ⟨n, hn⟩ : ∃ n, n = G.length := ⟨_, rfl⟩
      have HE := hid e
      rw [e, ← hn] at c1
      have hin : (i : Int) < n := by omega
      obtain ⟨ow, how⟩ : ∃ ow, ow = (G[i]).x.owner := ⟨_, rfl⟩
      rw [← how] at q1
      simp only [← hi, ← how] at ho
      have HO := hid ho
      have hib : (i : Int) ≤ 1000 := by omega
      clear h hi hr q0 fz e ho how hk
      go_enter Try.func35, Try.ntmps35
      go_wp2_with fail
      refine HC.out.mono ?_
      rintro e w2 ⟨rfl, f2⟩
      have F2 := hid f2
      have d1 := f2.cell q1 (by simp)
      have d2 := f2.cell c1 (by simp)
      clear f2
      by_cases e : ow = t
      · subst e
        go_wp2_with fail
        go_ret
        refine ⟨?_, by first | exact F2.out | exact F2.out.tr0 (Fr.refl _ _).drew⟩
        have := HO.out
        simp only [if_pos] at this
        rw [this]
        exact ⟨b, cap, _, HE.out, rfl⟩
      · have e2 : (ow != t) = true := by simpa using e
        go_wp2_with fail
        go_ret
        refine ⟨?_, by first | exact F2.out | exact F2.out.tr0 (Fr.refl _ _).drew⟩
        have := HO.out
        simp only [e, if_false] at this
        rw [this]
        rfl
    · have ht : t < 1 := by omega
      rw [rOwned_low ht]
      clear h hi hr hk
      go_enter Try.func35, Try.ntmps35
      go_wp2_with fail
      refine HC.out.mono ?_
      rintro e w2 ⟨rfl, f2⟩
      have F2 := hid f2
      clear f2
      go_wp2_with fail
      go_ret
      exact ⟨rfl, by first | exact F2.out | exact F2.out.tr0 (Fr.refl _ _).drew⟩
  · rw [rOwned_no (by rw [← hi, List.length_map]; exact hl)]
    rw [rixI_no (by rw [← hi, List.length_map]; exact hl)] at HC
    clear h hi hk hl
    go_enter Try.func35, Try.ntmps35
    go_wp2_with fail
    refine HC.out.mono ?_
    rintro e w2 ⟨rfl, f2⟩
    have F2 := hid f2
    clear f2
    go_wp2_with fail
    go_ret
    exact ⟨rfl, by first | exact F2.out | exact F2.out.tr0 (Fr.refl _ _).drew⟩

end Go.Proofs.Ythdmgjkipiaccaa

namespace Go.Proofs.Ythdmgjkipiaccaa
open Go.RowKit

structure RBd (R : List RL) (n : Nat) : Prop where
  len : R.length ≤ n
  all : ∀ x ∈ R, 0 ≤ x.count ∧ x.count ≤ n ∧ x.entry.length ≤ n ∧ x.wait.length ≤ n
theorem RBd.at {G : List RG} {n : Nat} (h : RBd (G.map RG.x) n) {i : Nat} (hi : i < G.length) : 0 ≤ G[i].x.count ∧ G[i].x.count ≤ n ∧ G[i].x.entry.length ≤ n ∧ G[i].x.wait.length ≤ n :=
  h.all _ (List.mem_map.2 ⟨G[i], List.getElem_mem hi, rfl⟩)
theorem RBd.glen {G : List RG} {n : Nat} (h : RBd (G.map RG.x) n) : G.length ≤ n := by have := h.len; rwa [List.length_map] at this
/-- the document's table moved to R' -/
def DMv (w w' : World) (tb : Nat) (F : List Nat) (R' : List RL) : Prop := ∃ F', Doc w' tb F' R' ∧ Fr F w w' ∧ ∀ b ∈ F', b ∈ F ∨ w.heap.size ≤ b
theorem DMv.of {w w' : World} {tb b cap n : Nat} {G : List RG} {R' : List RL} (h : DocT w' tb (.slice (some ⟨b, 0, none⟩) n cap) G) (e : R' = G.map RG.x) (f : Fr [b] w w') : DMv w w' tb (tb :: fpv (.slice (some ⟨b, 0, none⟩) n cap)) R' :=
  ⟨_, ⟨_, G, rfl, e, h⟩, f.sub (fun x hx => .inl (by simp [fpv, Value.ownBlock]; right; simpa using hx)), fun x hx => .inl hx⟩
theorem DMv.same {w w' : World} {tb : Nat} {v : Value} {G : List RG} (h : DocT w tb v G) (f : Fr [] w w') : DMv w w' tb (tb :: fpv v) (G.map RG.x) :=
  ⟨_, ⟨v, G, rfl, rfl, h.keep0 f⟩, f.sub (by simp), fun x hx => .inl hx⟩
theorem DocT.wqat {w : World} {tb : Nat} {v : Value} {G : List RG} (h : DocT w tb v G) {i : Nat} (hi : i < G.length) : WQ w G[i].ve G[i].x.entry ∧ WQ w G[i].vw G[i].x.wait := h.wq _ (List.getElem_mem hi)
theorem gx {G : List RG} {i : Nat} (hi : i < G.length) (a : Int) : (G.map RG.x).getD i (RL.zero a) = G[i].x := by
  rw [List.getD_eq_getElem?_getD, List.getElem?_map, List.getElem?_eq_getElem hi]
  rfl
theorem rOwned_lt {G : List RG} {a t : Int} {i : Nat} (h : rOwned (G.map RG.x) a t = some i) : i < G.length := by
  unfold rOwned at h
  split at h
  · rename_i hc
    cases h
    simpa using hc.1
  · cases h
theorem rExit_none {R : List RL} {a t : Int} (h : rOwned R a t = none) : rExit R a t = ((0, 130), R) := by unfold rExit; rw [h]
theorem rExit_less {G : List RG} {a t : Int} {i : Nat} (h : rOwned (G.map RG.x) a t = some i) (hi : i < G.length) (hc : 0 < G[i].x.count - 1) : rExit (G.map RG.x) a t = ((0, 0), (G.map RG.x).set i { G[i].x with count := G[i].x.count - 1 }) := by
  unfold rExit; rw [h]
  simp only []
  rw [gx hi, if_pos hc]
theorem rExit_over {G : List RG} {a t : Int} {i : Nat} (h : rOwned (G.map RG.x) a t = some i) (hi : i < G.length) (hc : ¬ 0 < G[i].x.count - 1) : rExit (G.map RG.x) a t = ((({ G[i].x with count := G[i].x.count - 1 } : RL).over.owner, 0), (G.map RG.x).set i ({ G[i].x with count := G[i].x.count - 1 } : RL).over) := by
  unfold rExit; rw [h]
  simp only []
  rw [gx hi, if_neg hc]

set_option maxHeartbeats 1000000 in
theorem dexit_any {w : World} {tb : Nat} {F : List Nat} {R : List RL} (h : Doc w tb F R) (hk : RBd R 1000) (a t : Int) : Calls Try.prog 19 #[.pointer (some ⟨tb, 0, none⟩), .int .i64 a, .int .i64 t] w fun e w' => e = .returned (.tuple #[.int .i64 (rExit R a t).1.1, .int .i64 (rExit R a t).1.2]) ∧ DMv w w' tb F (rExit R a t).2 := by
  obtain ⟨v, G, rfl, rfl, h⟩ := h
  have HC := hid (downed_any h hk.glen a t)
  have HD := hid h
  have HK := hid hk
  cases ho : rOwned (G.map RG.x) a t with
  | none =>
    rw [ho] at HC
    rw [rExit_none ho]
    clear h hk ho
    go_enter Try.func19, Try.ntmps19
    go_wp2_with fail
    refine HC.out.mono ?_
    rintro e w2 ⟨rfl, f2⟩
    have F2 := hid f2
    clear f2
    go_wp2_with fail
    go_ret2
    exact ⟨rfl, DMv.same HD.out (by first | exact F2.out | exact F2.out.tr0 (Fr.refl _ _).drew)⟩
  | some i =>
    have hi := rOwned_lt ho
    rw [ho] at HC
    obtain ⟨c0, c1, c2, c3⟩ := hk.at hi
    have HI := hid hi
    have HO := hid ho
    obtain ⟨n, hn, k0, k1⟩ : ∃ n, n = (G[i]'hi).x.count ∧ 0 ≤ n ∧ n ≤ 1000 := ⟨_, rfl, c0, by omega⟩
    have HN := hid hn
    clear h hk ho c0 c1 c2 c3 hn
    by_cases hc : 0 < n - 1
    · rw [rExit_less HO.out hi (by rw [← HN.out]; exact hc), ← HN.out]
      go_enter Try.func19, Try.ntmps19
      go_wp2_with fail
      refine HC.out.mono ?_
      rintro e w2 ⟨⟨b, cap, n0, rfl, rfl⟩, f2⟩
      have hd2 := HD.out.keep0 f2
      obtain ⟨b', cap', e, q0, q1, q2, q3, q4, q5, fz⟩ := hd2.lock HI.out
      injection e with e1 e2 e3
      injection e1 with e1
      injection e1 with e1 _ _
      subst e1 e2 e3
      rw [← HN.out] at q2
      have z2 := fz (i * 6 + 2)
      have F2 := hid f2
      have p1 := hid (((hd2.start HI.out).puti (q := 2) HI.out (by omega) (.int .i64 (n - 1)) ⟨{ (G[i]'hi).x with count := n - 1 }, (G[i]'hi).ve, (G[i]'hi).vw⟩ rfl (hd2.wqat hi)))
      have HD2 := hid hd2
      clear f2 hd2 q0 q1 q3 q4 q5 fz
      go_wp2_with fail
      go_ret2
      refine ⟨rfl, DMv.of (p1.out.keep0 (by first | exact Fr.refl _ _ | exact (Fr.refl _ _).drew)) (by rw [List.map_set]) ?_⟩
      have F2S : Fr [b] w w2 := F2.out.sub (by simp)
      first | exact F2S.setCell (.inl (by simp)) _ | exact (F2S.setCell (.inl (by simp)) _).drew
    · rw [rExit_over HO.out hi (by rw [← HN.out]; exact hc), ← HN.out]
      go_enter Try.func19, Try.ntmps19
      go_wp2_with fail
      refine HC.out.mono ?_
      rintro e w2 ⟨⟨b, cap, n0, rfl, rfl⟩, f2⟩
      have hd2 := HD.out.keep0 f2
      obtain ⟨b', cap', e, q0, q1, q2, q3, q4, q5, fz⟩ := hd2.lock HI.out
      injection e with e1 e2 e3
      injection e1 with e1
      injection e1 with e1 _ _
      subst e1 e2 e3
      rw [← HN.out] at q2
      have z2 := fz (i * 6 + 2)
      have F2 := hid f2
      have p1 := hid (((hd2.start HI.out).puti (q := 2) HI.out (by omega) (.int .i64 (n - 1)) ⟨{ (G[i]'hi).x with count := n - 1 }, (G[i]'hi).ve, (G[i]'hi).vw⟩ rfl (hd2.wqat hi)))
      have HD2 := hid hd2
      clear f2 hd2 q0 q1 q3 q4 q5 fz
      have HI2 : i < (G.set i ⟨{ (G[i]'hi).x with count := n - 1 }, (G[i]'hi).ve, (G[i]'hi).vw⟩).length := by rw [List.length_set]; exact hi
      have HV := hid (dover_any (w := w2.setCell ⟨b, i * 6 + 2, none⟩ (.int .i64 (n - 1))) (tb := tb) (b := b) (cap := cap) (G := G.set i ⟨{ (G[i]'hi).x with count := n - 1 }, (G[i]'hi).ve, (G[i]'hi).vw⟩) (by rw [List.length_set]; exact p1.out) HI2 (by rw [List.length_set]; exact HK.out.glen) (by rw [List.getElem_set_self]; have := (HK.out.at hi).2.2.1; show (G[i]'hi).x.entry.length ≤ _; omega))
      rw [List.getElem_set_self] at HV
      go_wp2_with fail
      refine HV.out.mono ?_
      rintro e w3 ⟨rfl, ⟨g', hg, hd⟩, f3⟩
      rw [List.set_set, List.length_set] at hd
      have HD3 := hid hd
      have F3 := hid f3
      have HG := hid hg
      clear hd f3 hg
      go_wp2_with fail
      go_ret2
      refine ⟨rfl, DMv.of (HD3.out.keep0 (by first | exact Fr.refl _ _ | exact (Fr.refl _ _).drew)) (by rw [List.map_set, HG.out]) ?_⟩
      have F2S : Fr [b] w w2 := F2.out.sub (by simp)
      first | exact (F2S.setCell (.inl (by simp)) _).tr F3.out | exact ((F2S.setCell (.inl (by simp)) _).tr F3.out).drew

end Go.Proofs.Ythdmgjkipiaccaa
