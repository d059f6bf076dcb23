/-
  RaceReads and RaceLocked: the walks.
-/
import Derived.Test.YtjkakhjajfpldaaRaceP
import Derived.OpenShut
namespace Go.Proofs.Ytjkakhjajfpldaa
open Go.RowKit

/-- what the walk reads of an argument's row -/
theorem IsRow.cell {k : IntKind} {w : World} {a : Option Addr} {len cap : Nat} {zs : List Int} (h : IsRow k w a len cap zs) (j : Nat) (hj : j < len) : ∃ b off, a = some ⟨b, off, none⟩ ∧ w.cell? ⟨b, off + j, none⟩ = some (.int k (zs.getD j 0)) ∧ (Lit.int k (zs.getD j 0)).wf = true := by
  rcases h with ⟨_, h2, _, _⟩ | ⟨x, rfl, h1, h2, h3, h4, h5⟩
  · omega
  · obtain ⟨b, off, rfl, hc⟩ := ints_at h4 (by omega)
    refine ⟨b, off, rfl, hc j (by omega), h5 _ ?_⟩
    rw [List.getD, List.getElem?_eq_getElem (by omega : j < zs.length)]
    exact List.getElem_mem _
theorem IsRow.len {k : IntKind} {w : World} {a : Option Addr} {len cap : Nat} {zs : List Int} (h : IsRow k w a len cap zs) : len ≤ zs.length := by
  rcases h with ⟨_, h2, _, _⟩ | ⟨x, _, h1, h2, h3, _⟩ <;> omega
theorem u8_bounds {x : Int} (h : (Lit.int .u8 x).wf = true) : 0 ≤ x ∧ x ≤ 255 := by
  exact bounds_u8 h

/-! ### RaceReads -/
def tsOf (zs : List Int) (k : Nat) : List Nat := (zs.take k).map fun x => (x % 12).toNat + 1
theorem tsOf_succ (zs : List Int) (k : Nat) (h : k < zs.length) : tsOf zs (k + 1) = tsOf zs k ++ [((zs.getD k 0) % 12).toNat + 1] := by
  unfold tsOf
  rw [List.take_succ_eq_append_getElem h, List.map_append, List.getD, List.getElem?_eq_getElem h]
  rfl
theorem tsOf_in (zs : List Int) (k : Nat) : ∀ t ∈ tsOf zs k, 1 ≤ t ∧ t ≤ 12 := by
  intro t ht
  simp only [tsOf, List.mem_map] at ht
  obtain ⟨x, _, rfl⟩ := ht
  omega
theorem oth_snoc (ts : List Nat) (t id : Nat) : oth (ts ++ [t]) id = (oth ts id || decide (t ≠ id)) := by simp [oth]

theorem read_is {w : World} {p : Ptrs} {s s' : St} {t a i : Int} {b : Bool} (h : Watch w p s) (e : s.read t a i false = (b, s')) :
    Calls Try.prog 14 #[.pointer (some ⟨p.b, 0, none⟩), .int .i64 t, .int .i64 a, .int .i64 i, .bool false] w fun e w' => e = .returned (.bool b) ∧ Watch w' p s' ∧ Fr p.S w w' := by
  have := read_any w p s t a i false h
  rw [e] at this
  exact this
theorem write_is {w : World} {p : Ptrs} {s s' : St} {t a i : Int} {b : Bool} (h : Watch w p s) (e : s.write t a i false = (b, s')) :
    Calls Try.prog 15 #[.pointer (some ⟨p.b, 0, none⟩), .int .i64 t, .int .i64 a, .int .i64 i, .bool false] w fun e w' => e = .returned (.bool b) ∧ Watch w' p s' ∧ Fr p.S w w' := by
  have := write_any w p s t a i false h
  rw [e] at this
  exact this

structure ReadsAt (w wr : World) (p : Ptrs) (zs : List Int) (k : Nat) : Prop where
  watch : Watch wr p (rS (tsOf zs k))
  fr : Fr [] w wr

set_option maxHeartbeats 1000000 in
theorem reads_walk (a0 : Option Addr) (len0 cap0 : Nat) (z0 : List Int) (a1 : Int) (w : World) (w0 : IsRow .u8 w a0 len0 cap0 z0) (w1 : (Lit.int .u8 a1).wf = true) :
    Calls Try.prog 5 #[.slice a0 len0 cap0, .int .u8 a1] w fun e w' => e = .returned (.bool true) ∧ Fr [] w w' := by
  have hlen := w0.len
  have hb1 := u8_bounds w1
  clear w1
  obtain ⟨i1, i2⟩ := hb1
  by_cases hbig : 40 < len0
  · go_enter Try.func5, Try.ntmps5
    go_wp2_with fail
    refine (known_any w).mono ?_
    rintro e wA ⟨rfl, f0⟩
    go_wp2_with fail
    go_ret
    exact ⟨rfl, f0⟩
  · have hsm : len0 ≤ 40 := by omega
    clear hbig
    obtain ⟨id, hid1, hid2, hid3⟩ : ∃ id : Nat, a1 % 12 + 1 = id ∧ 1 ≤ id ∧ id ≤ 12 := ⟨(a1 % 12).toNat + 1, by omega, by omega, by omega⟩
    have HID := hid hid1
    clear hid1
    go_enter Try.func5, Try.ntmps5
    go_wp2_with fail
    refine (known_any w).mono ?_
    rintro e wA ⟨rfl, f0⟩
    go_wp2_with fail
    refine (new_any wA).mono ?_
    rintro e wB ⟨p, rfl, h1, f1, hp⟩
    have g1 := f0.tr f1
    have HP := own_mono f0 hp
    clear hp f0 f1
    go_wp2_with fail
    rw [show a1 % 12 + 1 = (id : Int) from HID.out]
    go_loopw [6, 8] (fun o i wr => ∃ k : Nat, k ≤ len0 ∧ i = .int .i64 k ∧ o = .bool (oth (tsOf z0 k) id) ∧ ReadsAt w wr p z0 k) (fun _ i _ => len0 - (intOf i).toNat)
    case atStart => exact ⟨0, by omega, rfl, rfl, h1, g1⟩
    case round =>
      obtain ⟨k, hk, rfl, rfl, hR⟩ := hrel
      have H := hid hR
      clear hR h1 g1
      by_cases hlt : k < len0
      · obtain ⟨b, off, rfl, hcell0, hwf⟩ := w0.cell k hlt
        have hcell := H.out.fr.cell hcell0 (by simp)
        have hxb := u8_bounds hwf
        obtain ⟨x1, x2⟩ := hxb
        have hs := rS_read (tsOf z0 k) (((z0.getD k 0) % 12).toNat + 1) (by omega) (by omega)
        have hz := tsOf_succ z0 k (by omega)
        have hoth := oth_snoc (tsOf z0 k) (((z0.getD k 0) % 12).toNat + 1) id
        rw [← hz] at hs hoth
        generalize z0.getD k 0 = x at *
        have hcast : (((x % 12).toNat + 1 : Nat) : Int) = x % 12 + 1 := by omega
        rw [hcast] at hs
        have HC := hid (read_is H.out.watch hs)
        have hne : ((x % 12).toNat + 1 ≠ id) ↔ (x % 12 + 1 ≠ (id : Int)) := by omega
        have HO := hid hoth
        have HN := hid hne
        clear hcell0 hwf hs hz hoth hcast hne w0
        cases ho : oth (tsOf z0 k) id with
        | true =>
          go_wp2_with fail
          refine HC.out.mono ?_
          rintro e wC ⟨rfl, h2, f2⟩
          go_wp2_with fail
          go_roundw
          case rel => exact ⟨k + 1, by omega, by go_num, by rw [HO.out, ho]; rfl, h2, H.out.fr.own f2 HP⟩
          case measure => simp [intOf]; omega
        | false =>
          by_cases hx : x % 12 + 1 = (id : Int)
          · have hb : (x % 12 + 1 != (id : Int)) = false := by simp [hx]
            have HX := hid hx
            clear hx
            go_wp2_with fail
            refine HC.out.mono ?_
            rintro e wC ⟨rfl, h2, f2⟩
            go_wp2_with fail
            go_roundw
            case rel => exact ⟨k + 1, by omega, by go_num, by
              have : ¬ ((x % 12).toNat + 1 ≠ id) := fun h => (HN.out.1 h) HX.out
              rw [HO.out, ho, decide_eq_false this]; rfl, h2, H.out.fr.own f2 HP⟩
            case measure => simp [intOf]; omega
          · have hb : (x % 12 + 1 != (id : Int)) = true := by simpa using hx
            have HX := hid hx
            clear hx
            go_wp2_with fail
            refine HC.out.mono ?_
            rintro e wC ⟨rfl, h2, f2⟩
            go_wp2_with fail
            go_roundw
            case rel => exact ⟨k + 1, by omega, by go_num, by
              rw [HO.out, ho, decide_eq_true (HN.out.2 HX.out)]; rfl, h2, H.out.fr.own f2 HP⟩
            case measure => simp [intOf]; omega
      · obtain rfl : k = len0 := by omega
        have e1 := rW1_is (tsOf z0 k) (tsOf_in z0 k) id hid2 hid3
        have e2 := rW2_is (tsOf z0 k) id hid2 hid3
        have e3 := rW3_is (tsOf z0 k) id hid2 hid3
        have HW1 := hid (write_is H.out.watch (show (rS (tsOf z0 k)).write id 5 1 false = (oth (tsOf z0 k) id, (rW1 (tsOf z0 k) id).2) from Prod.ext e1 rfl))
        have E2 := hid e2
        have E3 := hid e3
        clear e1 e2 e3 w0
        generalize oth (tsOf z0 k) id = o at *
        go_wp2_with fail
        refine HW1.out.mono ?_
        rintro e wC ⟨rfl, h2, f2⟩
        have g2 := H.out.fr.own f2 HP
        go_wp2_with fail
        refine (write_is h2 (show (rW1 (tsOf z0 k) id).2.write id 5 2 false = (false, (rW2 (tsOf z0 k) id).2) from Prod.ext E2.out rfl)).mono ?_
        rintro e wD ⟨rfl, h3, f3⟩
        have g3 := g2.own f3 HP
        go_wp2_with fail
        refine (write_is h3 (show (rW2 (tsOf z0 k) id).2.write id 6 1 false = (false, ((rW2 (tsOf z0 k) id).2.write id 6 1 false).2) from Prod.ext E3.out rfl)).mono ?_
        rintro e wE ⟨rfl, h4, f4⟩
        have g4 := g3.own f4 HP
        go_wp2_with fail
        go_ret
        exact ⟨rfl, g4⟩

end Go.Proofs.Ytjkakhjajfpldaa
