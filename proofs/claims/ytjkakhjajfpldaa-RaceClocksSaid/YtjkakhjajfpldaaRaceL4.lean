/-
  RaceClocks: the walk.
-/
import Derived.Test.YtjkakhjajfpldaaRaceL2
namespace Go.Proofs.Ytjkakhjajfpldaa
open Go.RowKit

theorem A.info_int : (Try.prog.info? 3).map (fun i => (i.zero, i.size, i.bytes)) = some (some (.int .i64 0), 1, 8) := by kernel_rfl

theorem Clk.of_owns {w : World} {B : Nat} {v : Value} {c : List Int} (h : w.ownsRow B 3 1 v c.length (c.map (Value.int .i64))) (hl : c.length ≤ 1000000) : Clk w v c := by
  obtain ⟨h1, h2⟩ := h
  rcases h2 with ⟨rfl, h3⟩ | ⟨g, cap, cur, rfl, hg, hh, hle, hcm, hsz, ht⟩
  · have : c = [] := by simpa using h3
    subst this; exact Clk.nil w
  · refine ⟨_, cap, rfl, hl, fun _ => ⟨g, 0, cur, _, rfl, hh, fun k hk => ?_⟩⟩
    have e := congrArg (fun l => l[k]?) ht
    simp only [List.getElem?_take, List.getElem?_map, Nat.mul_one, if_pos hk, Array.getElem?_toList] at e
    rw [Nat.zero_add, e, List.getElem?_eq_getElem hk, List.getD, List.getElem?_eq_getElem hk]
    rfl

structure ClockAt (w wr : World) (v : Value) (zs : List Int) (k : Nat) : Prop where
  own : wr.ownsRow w.heap.size 3 1 v k ((zs.take k).map (Value.int .i64))
  fr : Fr [] w wr

theorem grown_fr {w w' : World} {row : Option Nat} {B : Nat} (h : w.grownBy w' row) (hr : ∀ k, row = some k → B ≤ k) {W : World} (f : Fr [] W w) (hB : B = W.heap.size) : Fr [] W w' :=
  f.trans (S' := row.toList) ⟨h.os, h.tape, h.output, h.size, fun k hk hn => h.block k hk (fun e => hn (by rw [← e]; simp))⟩ (fun x hx => Or.inr (by
    cases row with
    | none => simp at hx
    | some r => simp at hx; subst hx; rw [← hB]; exact hr _ rfl))

theorem ClockAt.step {w wr w1 : World} {v v' : Value} {zs : List Int} {k : Nat} {x : Int} (h : ClockAt w wr v zs k) (hk : k < zs.length) (hx : x = zs.getD k 0) (o : Obj)
    (hown : w1.ownsRow w.heap.size 3 1 v' (k + 1) ((zs.take k).map (Value.int .i64) ++ [.int .i64 x])) (hg : (wr.alloc o).grownBy w1 v.ownBlock) : ClockAt w w1 v' zs (k + 1) := by
  have hb : ∀ b, v.ownBlock = some b → w.heap.size ≤ b := by
    intro b hb
    obtain ⟨_, h2⟩ := h.own
    rcases h2 with ⟨rfl, _⟩ | ⟨g, cap, cur, rfl, hg', _⟩
    · cases hb
    · cases hb; exact hg'
  refine ⟨?_, grown_fr hg hb (h.fr.alloc o) rfl⟩
  have e : (zs.take (k + 1)).map (Value.int .i64) = (zs.take k).map (Value.int .i64) ++ [.int .i64 x] := by
    rw [List.take_succ_eq_append_getElem hk, List.map_append, hx, List.getD, List.getElem?_eq_getElem hk]; rfl
  rw [e]; exact hown

set_option maxHeartbeats 1000000 in
theorem clock_of (a0 : Option Addr) (len0 cap0 : Nat) (z0 : List Int) (w : World) (w0 : IsRow .u8 w a0 len0 cap0 z0) (hl : len0 ≤ 13) :
    Calls Try.prog 10 #[.slice a0 len0 cap0] w fun e w' => ∃ v, e = .returned v ∧ Clk w' v (z0.take len0) ∧ Fr [] w w' := by
  obtain ⟨i0, hi, hz0, hz1, hz2⟩ := info_parts A.info_int
  have hlen := w0.len
  go_enter Try.func10, Try.ntmps10
  go_wp2_with fail
  go_loopw [3, 4] (fun v i wr => ∃ k : Nat, k ≤ len0 ∧ i = .int .i64 k ∧ ClockAt w wr v z0 k) (fun _ i _ => len0 - (intOf i).toNat)
  case atStart => exact ⟨0, by omega, rfl, ⟨rfl, .inl ⟨rfl, rfl⟩⟩, Fr.refl _ _⟩
  case round =>
    rename_i v _
    obtain ⟨k, hk, rfl, hc⟩ := hrel
    have HC := hid hc
    clear hc
    by_cases hlt : k < len0
    · obtain ⟨b, off, rfl, hcell0, hwf⟩ := w0.cell k hlt
      have hcell := HC.out.fr.cell hcell0 (by simp)
      obtain ⟨x1, x2⟩ := u8_bounds hwf
      have hown := HC.out.own
      have hsz := HC.out.fr.size
      have HX := hid (rfl : z0.getD k 0 = z0.getD k 0)
      generalize hx : z0.getD k 0 = x at hcell x1 x2 HX hcell0 hwf
      have HX2 := hid hx
      clear w0 hcell0 hwf hx HX
      go_wp2_with (at_builtin; refine wpList_append_own _ rfl _ _ 25 rfl w.heap.size 3 i0 (.int .i64 0) 1 8 Try.underlying25 hi hz0 hz1 hz2 rfl (by decide) _ _ _ rfl (hown.alloc _) ⟨wr.heap.size, 0, none⟩ 1 1 [.int .i64 x] rfl rfl (cell_one_new _ _ _) (ints_oneCell .i64 [x]) (by unfold maxLen; omega) (by omega) (by simp; omega) ?_; intro v' w1 hown1 hgrow1 _)
      go_roundw
      case rel => exact ⟨k + 1, by omega, by go_num, HC.out.step (by omega) HX2.out.symm _ hown1 hgrow1⟩
      case measure => simp [intOf]; omega
    · obtain rfl : k = len0 := by omega
      go_wp2
      go_ret
      refine ⟨_, rfl, Clk.of_owns (B := w.heap.size) ?_ ?_, HC.out.fr⟩
      · have e : (z0.take k).length = k := by rw [List.length_take]; omega
        rw [e]; exact HC.out.own
      · rw [List.length_take]; omega

theorem IsRow.keep {kd : IntKind} {w w' : World} {a : Option Addr} {len cap : Nat} {z : List Int} (h : IsRow kd w a len cap z) (f : Fr [] w w') : IsRow kd w' a len cap z := by
  rcases h with h | ⟨x, rfl, h1, h2, h3, h4, h5⟩
  · exact .inl h
  · exact .inr ⟨x, rfl, h1, h2, h3, fun i hi => f.cell (h4 i hi) (by simp), h5⟩

set_option maxHeartbeats 2000000 in
theorem clocks_walk (a0 : Option Addr) (len0 cap0 : Nat) (z0 : List Int) (a1 : Option Addr) (len1 cap1 : Nat) (z1 : List Int) (a2 : Option Addr) (len2 cap2 : Nat) (z2 : List Int) (w : World)
    (w0 : IsRow .u8 w a0 len0 cap0 z0) (w1 : IsRow .u8 w a1 len1 cap1 z1) (w2 : IsRow .u8 w a2 len2 cap2 z2) :
    Calls Try.prog 3 #[.slice a0 len0 cap0, .slice a1 len1 cap1, .slice a2 len2 cap2] w fun e w' => e = .returned (.bool true) ∧ Fr [] w w' := by
  have nn : ∀ {a : Option Addr} {len cap : Nat} {z : List Int}, IsRow .u8 w a len cap z → ∀ i, 0 ≤ (z.take len).getD i 0 := by
    intro a len cap z h i
    by_cases hi : i < len
    · obtain ⟨b, off, _, _, hwf⟩ := h.cell i hi
      have := (u8_bounds hwf).1
      have e : (z.take len).getD i 0 = z.getD i 0 := by simp [List.getD, hi]
      rw [e]; exact this
    · rw [getD_out _ _ (by rw [List.length_take]; omega)]; omega
  have nn2 := hid (nn w2)
  clear nn
  by_cases hb0 : 13 < len0
  · clear w0 w1 w2 nn2
    go_enter Try.func3, Try.ntmps3
    go_wp2_with fail
    refine (known_any w).mono ?_
    rintro e wA ⟨rfl, f0⟩
    go_wp2_with fail
    go_ret
    exact ⟨rfl, f0⟩
  by_cases hb1 : 13 < len1
  · clear w0 w1 w2 nn2
    go_enter Try.func3, Try.ntmps3
    go_wp2_with fail
    refine (known_any w).mono ?_
    rintro e wA ⟨rfl, f0⟩
    go_wp2_with fail
    go_ret
    exact ⟨rfl, f0⟩
  by_cases hb2 : 13 < len2
  · clear w0 w1 w2 nn2
    go_enter Try.func3, Try.ntmps3
    go_wp2_with fail
    refine (known_any w).mono ?_
    rintro e wA ⟨rfl, f0⟩
    go_wp2_with fail
    go_ret
    exact ⟨rfl, f0⟩
  have W0 := hid w0
  have W1 := hid w1
  have W2 := hid w2
  clear w0 w1 w2
  go_enter Try.func3, Try.ntmps3
  go_wp2_with fail
  refine (known_any w).mono ?_
  rintro e wA ⟨rfl, f0⟩
  go_wp2_with fail
  refine (clock_of _ _ _ _ wA (W0.out.keep f0) (by omega)).mono ?_
  rintro e wB ⟨vx, rfl, hx, fB⟩
  have gB := f0.tr fB
  go_wp2_with fail
  refine (clock_of _ _ _ _ wB (W1.out.keep gB) (by omega)).mono ?_
  rintro e wC ⟨vy, rfl, hy, fC⟩
  have gC := gB.tr fC
  go_wp2_with fail
  refine (clock_of _ _ _ _ wC (W2.out.keep gC) (by omega)).mono ?_
  rintro e wD ⟨vz, rfl, hz, fD⟩
  have gD := gC.tr fD
  have hx := (hx.keep0 fC).keep0 fD
  have hy := hy.keep0 fD
  go_wp2_with fail
  refine (join_any wD vx vy _ _ hx hy).mono ?_
  rintro e wJ ⟨vj, rfl, hj, fJ⟩
  have G := hid (gD.tr fJ)
  obtain ⟨g, rfl⟩ := hj.form
  have hx := hx.keep0 fJ
  have hy := hy.keep0 fJ
  have hz := hz.keep0 fJ
  have hJ := hj.clk
  clear f0 fB gB fC gC fD gD fJ hj
  have lx : (z0.take len0).length ≤ 13 := by rw [List.length_take]; omega
  have ly : (z1.take len1).length ≤ 13 := by rw [List.length_take]; omega
  have HXX := hid (before_is hx hx (leL_refl _))
  have HXJ := hid (before_is hx hJ (le_joinL_l lx))
  have HYJ := hid (before_is hy hJ (le_joinL_r ly))
  have hXY := fun b h => before_is (b := b) hx hy h
  have hYZ := fun b h => before_is (b := b) hy hz h
  have hXZ := fun b h => before_is (b := b) hx hz h
  have hJZ := fun b h => before_is (b := b) hJ hz h
  have htr := @leL_trans (z0.take len0) (z1.take len1) (z2.take len2)
  have hlub := fun h1 h2 => @joinL_lub (z0.take len0) (z1.take len1) (z2.take len2) h1 h2 (fun i _ => nn2.out i)
  clear hx hy hz hJ lx ly nn2 W0 W1 W2
  generalize z0.take len0 = X at *
  generalize z1.take len1 = Y at *
  generalize z2.take len2 = Z at *
  cases hxz : leL X Z with
  | true =>
    cases hyz : leL Y Z with
    | true =>
      have HXZ := hid (hXZ true hxz)
      have HYZ := hid (hYZ true hyz)
      have HJZ := hid (hJZ true (hlub hxz hyz))
      cases hxy : leL X Y with
      | true =>
        have HXY := hid (hXY true hxy)
        clear hXZ hYZ hJZ hXY htr hlub hxz hyz hxy
        go_wp2_with (first | (go_at_call 12; ((with_reducible refine HXX.out.mono ?_); rintro e w' ⟨rfl, rfl⟩)) | (go_at_call 12; ((with_reducible refine HXJ.out.mono ?_); rintro e w' ⟨rfl, rfl⟩)) | (go_at_call 12; ((with_reducible refine HYJ.out.mono ?_); rintro e w' ⟨rfl, rfl⟩)) | (go_at_call 12; ((with_reducible refine HXY.out.mono ?_); rintro e w' ⟨rfl, rfl⟩)) | (go_at_call 12; ((with_reducible refine HYZ.out.mono ?_); rintro e w' ⟨rfl, rfl⟩)) | (go_at_call 12; ((with_reducible refine HXZ.out.mono ?_); rintro e w' ⟨rfl, rfl⟩)) | (go_at_call 12; ((with_reducible refine HJZ.out.mono ?_); rintro e w' ⟨rfl, rfl⟩)))
        go_ret
        exact ⟨rfl, G.out⟩
      | false =>
        have HXY := hid (hXY false hxy)
        clear hXZ hYZ hJZ hXY htr hlub hxz hyz hxy
        go_wp2_with (first | (go_at_call 12; ((with_reducible refine HXX.out.mono ?_); rintro e w' ⟨rfl, rfl⟩)) | (go_at_call 12; ((with_reducible refine HXJ.out.mono ?_); rintro e w' ⟨rfl, rfl⟩)) | (go_at_call 12; ((with_reducible refine HYJ.out.mono ?_); rintro e w' ⟨rfl, rfl⟩)) | (go_at_call 12; ((with_reducible refine HXY.out.mono ?_); rintro e w' ⟨rfl, rfl⟩)) | (go_at_call 12; ((with_reducible refine HYZ.out.mono ?_); rintro e w' ⟨rfl, rfl⟩)) | (go_at_call 12; ((with_reducible refine HXZ.out.mono ?_); rintro e w' ⟨rfl, rfl⟩)) | (go_at_call 12; ((with_reducible refine HJZ.out.mono ?_); rintro e w' ⟨rfl, rfl⟩)))
        go_ret
        exact ⟨rfl, G.out⟩
    | false =>
      have HXZ := hid (hXZ true hxz)
      have HYZ := hid (hYZ false hyz)
      cases hxy : leL X Y with
      | true =>
        have HXY := hid (hXY true hxy)
        clear hXZ hYZ hJZ hXY htr hlub hxz hyz hxy
        go_wp2_with (first | (go_at_call 12; ((with_reducible refine HXX.out.mono ?_); rintro e w' ⟨rfl, rfl⟩)) | (go_at_call 12; ((with_reducible refine HXJ.out.mono ?_); rintro e w' ⟨rfl, rfl⟩)) | (go_at_call 12; ((with_reducible refine HYJ.out.mono ?_); rintro e w' ⟨rfl, rfl⟩)) | (go_at_call 12; ((with_reducible refine HXY.out.mono ?_); rintro e w' ⟨rfl, rfl⟩)) | (go_at_call 12; ((with_reducible refine HYZ.out.mono ?_); rintro e w' ⟨rfl, rfl⟩)) | (go_at_call 12; ((with_reducible refine HXZ.out.mono ?_); rintro e w' ⟨rfl, rfl⟩)))
        go_ret
        exact ⟨rfl, G.out⟩
      | false =>
        have HXY := hid (hXY false hxy)
        clear hXZ hYZ hJZ hXY htr hlub hxz hyz hxy
        go_wp2_with (first | (go_at_call 12; ((with_reducible refine HXX.out.mono ?_); rintro e w' ⟨rfl, rfl⟩)) | (go_at_call 12; ((with_reducible refine HXJ.out.mono ?_); rintro e w' ⟨rfl, rfl⟩)) | (go_at_call 12; ((with_reducible refine HYJ.out.mono ?_); rintro e w' ⟨rfl, rfl⟩)) | (go_at_call 12; ((with_reducible refine HXY.out.mono ?_); rintro e w' ⟨rfl, rfl⟩)) | (go_at_call 12; ((with_reducible refine HYZ.out.mono ?_); rintro e w' ⟨rfl, rfl⟩)) | (go_at_call 12; ((with_reducible refine HXZ.out.mono ?_); rintro e w' ⟨rfl, rfl⟩)))
        go_ret
        exact ⟨rfl, G.out⟩
  | false =>
    have HXZ := hid (hXZ false hxz)
    cases hxy : leL X Y with
    | true =>
      have hyz : leL Y Z = false := by
        cases h : leL Y Z with
        | false => rfl
        | true => rw [htr hxy h] at hxz; cases hxz
      have HYZ := hid (hYZ false hyz)
      have HXY := hid (hXY true hxy)
      clear hXZ hYZ hJZ hXY htr hlub hxz hyz hxy
      go_wp2_with (first | (go_at_call 12; ((with_reducible refine HXX.out.mono ?_); rintro e w' ⟨rfl, rfl⟩)) | (go_at_call 12; ((with_reducible refine HXJ.out.mono ?_); rintro e w' ⟨rfl, rfl⟩)) | (go_at_call 12; ((with_reducible refine HYJ.out.mono ?_); rintro e w' ⟨rfl, rfl⟩)) | (go_at_call 12; ((with_reducible refine HXY.out.mono ?_); rintro e w' ⟨rfl, rfl⟩)) | (go_at_call 12; ((with_reducible refine HYZ.out.mono ?_); rintro e w' ⟨rfl, rfl⟩)) | (go_at_call 12; ((with_reducible refine HXZ.out.mono ?_); rintro e w' ⟨rfl, rfl⟩)))
      go_ret
      exact ⟨rfl, G.out⟩
    | false =>
      have HXY := hid (hXY false hxy)
      clear hXZ hYZ hJZ hXY htr hlub hxz hxy
      go_wp2_with (first | (go_at_call 12; ((with_reducible refine HXX.out.mono ?_); rintro e w' ⟨rfl, rfl⟩)) | (go_at_call 12; ((with_reducible refine HXJ.out.mono ?_); rintro e w' ⟨rfl, rfl⟩)) | (go_at_call 12; ((with_reducible refine HYJ.out.mono ?_); rintro e w' ⟨rfl, rfl⟩)) | (go_at_call 12; ((with_reducible refine HXY.out.mono ?_); rintro e w' ⟨rfl, rfl⟩)) | (go_at_call 12; ((with_reducible refine HXZ.out.mono ?_); rintro e w' ⟨rfl, rfl⟩)))
      go_ret
      exact ⟨rfl, G.out⟩

end Go.Proofs.Ytjkakhjajfpldaa
