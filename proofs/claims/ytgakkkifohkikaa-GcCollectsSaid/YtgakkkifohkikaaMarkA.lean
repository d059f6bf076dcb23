/-
  maps.Keys and slices.Sorted at a map whose keys are ints; package gc: Mark.
-/
import Derived.Test.YtgakkkifohkikaaIter
import Derived.Test.YtgakkkifohkikaaGcB
import Derived.Test.YtgakkkifohkikaaMarkM
namespace Go.Proofs.Ytgakkkifohkikaa
open Go.RowKit Go.Maps Go.Sort Go.Shelf

def sortI (l : List Int) : List Int := l.mergeSort (fun x y => decide (x ≤ y))
def KeysPost (W : World) (mb : Option Nat) (e : Ending) (w' : World) : Prop :=
  e = .returned (.func (.func 69) #[] #[.pointer (some ⟨W.heap.size, 0, none⟩)]) ∧ w' = W.alloc (.cells #[.map mb] 99)
theorem keys_calls (mb : Option Nat) (W : World) : Calls Try.prog 59 #[.map mb] W (KeysPost W mb) :=
  (callsIn_wide (n := 5)).1 (AnyZI.keys_in Try.keysA Fence.wide 5 trivial rfl mb W)

theorem sorts_in (m : Nat) : AnyZI.SortsIn Try.prog Try.sortedA_ren Fence.wide m :=
  ⟨fun blk off cap ss W hH hblk hsz => callsIn_wide.2 (AnyM.slices_Sort_int Try.sortA blk off cap ss W hH hblk hsz),
   fun p cap W => callsIn_wide.2 (AnyM.slices_Sort_int_none Try.sortA p cap W)⟩

def SortedPost (w : World) (ks : List Int) (e : Ending) (w' : World) : Prop := ∃ v, e = .returned v ∧ RI w' v (sortI ks) ∧ (∀ b ∈ fpv v, w.heap.size ≤ b) ∧ Fr [] w w'

theorem sorted_calls (w : World) (b : Nat) (l : List (Int × Value)) (h : MapL w b intK l) (hk : ∀ p ∈ l, (Lit.int .i64 p.1).wf = true) (hl : l.length ≤ 1000000) :
    Calls Try.prog 58 #[.func (.func 69) #[] #[.pointer (some ⟨w.heap.size, 0, none⟩)]] (w.alloc (.cells #[.map (some b)] 99)) (SortedPost w (l.map (·.1))) := by
  have hlm : l.length ≤ maxLen := by unfold maxLen; omega
  obtain ⟨D0, hown, hperm, hsize⟩ := h.owns hk hlm
  have hbl := hown.lt
  have hseq : SeqGives Fence.wide 2 Try.prog 69 #[.pointer (some ⟨w.heap.size, 0, none⟩)] encZ (fun ss => ss.Perm (intKeys D0)) (Maps.size D0) (w.alloc (.cells #[.map (some b)] 99)) :=
    AnyZI.keys_gives (ρ := Try.keysA_ren) { Try.keysA with } Fence.wide _ trivial rfl (by omega) w.heap.size b l.length D0 _ (by simp) (by simp) (by
      obtain ⟨es, clock, hb, Ft, hs, hD⟩ := hown
      exact ⟨es, clock, (Below.heap_alloc _ _ b hbl).trans hb, Ft, hs, hD⟩)
  have cS := AnyZI.sorted_in Try.sortedA Fence.wide 5 trivial trivial trivial trivial rfl (by omega) (sorts_in _) (enters_of Try.func68 (by kernel_rfl) rfl) 69 #[.pointer (some ⟨w.heap.size, 0, none⟩)] trivial (enters_of Try.func69 (by kernel_rfl) rfl) _ _ (by rw [hsize]; exact hlm) (by rw [hsize]; omega) _ hseq
  refine ((callsIn_wide (n := 5)).1 cS).mono ?_
  rintro e w' ⟨v, ss, rfl, hS, hrow, hnil, hb⟩
  have hp : ss.Perm (l.map (·.1)) := hS.trans hperm
  have he : ss.mergeSort (fun x y => decide (x ≤ y)) = sortI (l.map (·.1)) := mergeSort_of_perm_i hp
  have hlen : ss.length = (sortI (l.map (·.1))).length := by rw [← he, List.length_mergeSort]
  rw [he, hlen] at hrow
  have hsz : (w.alloc (.cells #[.map (some b)] 99)).heap.size = w.heap.size + 1 := by simp
  refine ⟨v, rfl, ?_, fun b' hb' => ?_, ((Fr.refl [] w).alloc _).tr (Go.Proofs.Ytgakkkifohkikaa.Below.fr hb)⟩
  · refine ⟨by simp, ?_⟩
    rcases hrow.2 with h2 | ⟨g, cap, cur, h1, h2, h3, h4, h5, h6, h7⟩
    · exact .inl h2
    · exact .inr ⟨g, cap, cur, h1, Nat.zero_le _, h3, h4, h5, h6, h7⟩
  · rw [mem_fpv] at hb'
    rcases hrow.2 with ⟨rfl, _⟩ | ⟨g, cap, cur, rfl, h2, _⟩
    · cases hb'
    · cases hb'
      rw [hsz] at h2
      exact Nat.le_of_succ_le h2

def MarkPost (C : List Int → World → List Nat → Prop) (L : List Ob) (roots : List Int) (R : Int → List Int) (w : World) (O : List Nat) (s : List Int) (e : Ending) (w' : World) : Prop :=
  ∃ v met O', e = .returned v ∧ RI w' v (sortI met) ∧ met.Nodup ∧ (∀ a, a ∈ met ↔ Reach L roots R a) ∧ C (s ++ met) w' O' ∧ Fr O w w' ∧ (∀ b ∈ O', b ∈ O ∨ w.heap.size ≤ b) ∧ (∀ b ∈ fpv v, w.heap.size ≤ b ∧ b ∉ O')
set_option maxHeartbeats 400000 in
theorem mark_any {C : List Int → World → List Nat → Prop} {f : Nat} {cp : Array Value} {R : Int → List Int} {w : World} {p : Value} {F : List Nat} {n : Nat} {L : List Ob} (h : Ar w p F n L) (K : Clo f cp L R C) {vr : Value} {roots : List Int} (hr : RI w vr roots)
    {s : List Int} {O : List Nat} (hc : C s w O) (hO : ∀ b ∈ O, b ∉ F) (hB : ∀ a, has L a = true → (R a).length ≤ 100) (hrl : roots.length ≤ 1000) (hsl : s.length ≤ 1000) :
    Calls Try.prog 37 #[p, vr, .func (.func f) #[] cp] w (MarkPost C L roots R w O s) := by
  have HRC := hid (reached_any h K hr hc hO hB hrl hsl)
  have hL : L.length ≤ 1024 := by have h1 := Rise.length h.rise; have h2 := h.small; omega
  have HAT : Hid (∀ o ∈ L, (Lit.int .i64 (o.at' : Int)).wf = true) := hid (fun o ho => by
    have h1 := Rise.obs h.rise o ho
    have h2 := h.small
    simp only [Lit.wf, Bool.and_eq_true, IntKind.min, IntKind.max]
    constructor <;> simp [IntKind.signed, IntKind.bits] <;> omega)
  have HL := hid hL
  obtain ⟨hb, rfl⟩ := h.form
  obtain ⟨ar, cr, rfl, _, _⟩ := hr.form
  have HK := hid K
  clear h K hr hc hO hB hrl hsl hL
  unfold ptrV at *
  go_enter Try.func37, Try.ntmps37
  go_wp2_with fail
  refine HRC.out.mono ?_
  rintro e w1 ⟨mb, met, O', rfl, m1, m2, m3, m4, m5, m6, m7, m8⟩
  have hml := met_len m2 (fun a ha => ((m3 a).1 ha).has)
  have hwf : ∀ p ∈ metL met, (Lit.int .i64 p.1).wf = true := fun p hp => by
    obtain ⟨a, ha, rfl⟩ := List.mem_map.1 hp
    obtain ⟨o, ho, e⟩ := List.mem_map.1 (has_mem.1 ((m3 a).1 ha).has)
    rw [← e]; exact HAT.out o ho
  have hks : (metL met).map (·.1) = met := by unfold metL; rw [List.map_map]; simp [Function.comp_def]
  have HS := hid (sorted_calls w1 mb (metL met) m1 hwf (by unfold metL; rw [List.length_map]; have := HL.out; omega))
  rw [hks] at HS
  have M := hid (And.intro m2 (And.intro m3 (And.intro m4 (And.intro m5 m6))))
  clear m1 m2 m3 m4 m5 m6 m7 m8 hml hwf hks
  go_wp2_with fail
  refine (keys_calls (some mb) w1).mono ?_
  rintro e w2 ⟨rfl, rfl⟩
  go_wp2_with fail
  refine HS.out.mono ?_
  rintro e w3 ⟨v, rfl, hv, hn, f3⟩
  obtain ⟨m2, m3, m4, m5, m6⟩ := M.out
  have HF : Hid (MarkPost C L roots R w O s (.returned v) w3) := hid ⟨v, met, O', rfl, hv, m2, m3, HK.out.keep m4 f3 (by simp), m5.tr0 f3, m6, fun b hb => ⟨Nat.le_trans m5.size (hn b hb), fun ho => by have := HK.out.lt m4 b ho; have := hn b hb; omega⟩⟩
  clear hv hn f3 m2 m3 m4 m5 m6
  go_wp2_with fail
  go_ret
  exact HF.out

end Go.Proofs.Ytgakkkifohkikaa
