/-
  Package lex: numbers.
-/
import Derived.Test.YtlkkekjbcaabcaaLexC
namespace Go.Proofs.Ytlkkekjbcaabcaa
open Go.RowKit

def bs (l : List UInt8) : ByteArray := ⟨l.toArray⟩
theorem bs_of {x : ByteArray} {l : List UInt8} (h : x.data.toList = l) : x = bs l := by subst h; rfl
theorem bs_list (l : List UInt8) : (bs l).data.toList = l := rfl
theorem bs_size (l : List UInt8) : (bs l).size = l.length := by simp [bs, ByteArray.size]
structure Tok where
  kind : Int
  at' : Int
  text : List UInt8
  int : Int
  re : Nat
  im : Nat
  deriving DecidableEq
def Tok.zero : Tok := ⟨0, 0, [], 0, 0, 0⟩
def Tok.cells (t : Tok) : Array Value := #[.int .i64 t.kind, .int .i64 t.at', .string (bs t.text), .int .i64 t.int, .complex .f64 t.re t.im]
def Tok.val (t : Tok) : Value := .agg t.cells
def digits (l : List UInt8) : Int := l.foldl (fun a b => 10 * a + (b.toNat - 48 : Int)) 0
def isCI (l : List UInt8) (n : Nat) : Bool := decide (n < l.length) && (l.getD n 0 == 99 || l.getD n 0 == 105)

def restName (l : List UInt8) (m : Nat) : Bool := decide (m < l.length) && isName (l.getD m 0)
def fl (v : Int) : Nat := floatOfInt .f64 v
def numTok (l : List UInt8) : Tok × Int :=
  let n := runLen isDigit l
  if 18 < n then (.zero, 32) else
  if isCI l n then
    if 15 < n then (.zero, 32) else
    if restName l (n + 1) then (.zero, 180) else
    if l.getD n 0 = 105 then (⟨4, 0, l.take (n + 1), 0, 0, fl (digits (l.take n))⟩, 0) else (⟨4, 0, l.take (n + 1), 0, fl (digits (l.take n)), 0⟩, 0)
  else if restName l n then (.zero, 180) else (⟨3, 0, l.take n, digits (l.take n), 0, 0⟩, 0)
def TokPost (w : World) (r : Tok × Int) (e : Ending) (w' : World) : Prop := e = .returned (.tuple #[r.1.val, .int .i64 r.2]) ∧ Fr [] w w'

theorem digits_snoc (l : List UInt8) (b : UInt8) : digits (l ++ [b]) = 10 * digits l + (b.toNat - 48 : Int) := by simp [digits, List.foldl_append]
theorem runLen_all (p : UInt8 → Bool) (l : List UInt8) (j : Nat) (h : j < runLen p l) : p (l.getD j 0) = true := by
  have hl := runLen_le p l
  have := runLen_step p l j (by omega) (by omega)
  cases hp : p (l.getD j 0) with
  | true => rfl
  | false => have := this.2 hp; omega
theorem take_snoc (l : List UInt8) (k : Nat) (h : k < l.length) : l.take (k + 1) = l.take k ++ [l.getD k 0] := by
  rw [List.take_succ_eq_append_getElem h, List.getD, List.getElem?_eq_getElem h]; rfl
theorem digits_take (l : List UInt8) (k : Nat) (h : k < l.length) : digits (l.take (k + 1)) = 10 * digits (l.take k) + ((l.getD k 0).toNat - 48 : Int) := by
  rw [take_snoc l k h, digits_snoc]
theorem digits_bound (l : List UInt8) (k : Nat) (h : k ≤ runLen isDigit l) : 0 ≤ digits (l.take k) ∧ digits (l.take k) < ((10 ^ k : Nat) : Int) := by
  induction k with
  | zero => simp [digits]
  | succ k ih =>
    have hl := runLen_le isDigit l
    obtain ⟨h1, h2⟩ := ih (by omega)
    have hd := runLen_all isDigit l k (by omega)
    rw [digits_take l k (by omega)]
    simp only [isDigit, Bool.and_eq_true, decide_eq_true_eq] at hd
    rw [Nat.pow_succ]
    generalize 10 ^ k = p at h2
    omega

theorem run_store_complex (w : World) (a : Addr) (k : FloatKind) (x y : Nat) (m : Mode) : (store a (.complex k x y) m).run Try.prog w = stored Try.prog w a (.complex k x y) m := run_store Try.prog w a _ m rfl
theorem und_str : Try.prog.underlying 9 = some .string := by kernel_rfl
theorem und_bytes : Try.prog.underlying 42 = some (.slice 5) := by kernel_rfl
theorem und_u8 : Try.prog.underlying 5 = some (.int .u8) := by kernel_rfl
/-- '[]byte(s)' -/
theorem conv_bytes (w : World) (s : ByteArray) : ∃ cap w', (convert 9 42 (.string s)).run Try.prog w = .ok (.slice (some ⟨w.heap.size, 0, none⟩) s.size cap) w' ∧ Fr [] w w' ∧
    ∀ j, j < s.size → w'.cell? ⟨w.heap.size, j, none⟩ = some (bv (s.data.toList.getD j 0)) := by
  refine ⟨_, _, run_bytes_of_string w _ _ _ s und_str und_bytes und_u8, ((Fr.refl [] w).drew.alloc _), fun j hj => ?_⟩
  have hb := heap_alloc_new w.drew (.cells (bytesRow s (grownCap w s.size 0 5)) 5 ((bytesRow s (grownCap w s.size 0 5)).size, (bytesRow s (grownCap w s.size 0 5)).size + 1))
  have e : w.drew.heap.size = w.heap.size := rfl
  rw [e] at hb
  rw [cell_of_row _ _ _ _ _ _ hb]
  unfold bytesRow
  have hj' : j < s.data.size := hj
  rw [Array.getElem?_append_left (by rw [Array.size_map]; exact hj'), Array.getElem?_map]
  rw [List.getD, Array.getElem?_toList]
  rw [Array.getElem?_eq_getElem hj']
  rfl
theorem tok_under : Try.prog.underlying 31 = some (.struct (Try.prog.fieldsOf 31)) := by kernel_rfl
theorem tok_size : (Try.prog.info? 31).map (·.size) = some 5 := by kernel_rfl

theorem results_row_tmp {P : Program} {fn : Func} {p u : Tmp} {ty : TypeId} (h : fn.results = #[.cell p ty, .tmp u]) (tmps : Array Value) (w : World) (g : Nat) (t : TypeId) (cs : Array Value) (fr : Nat × Nat) (d : TypeDesc)
    (hp : tmps.getD p undef = .pointer (some ⟨g, 0, none⟩)) (hg : w.heap[g]? = some (.cells cs t fr))
    (hu : P.underlying ty = some d) (hd : (match d with | .struct _ | .array _ _ => true | _ => false) = true) (hi : (P.info? ty).map (·.size) = some cs.size) :
    (results fn tmps).run P w = .ok (.tuple #[.agg cs, tmps.getD u undef]) w := by
  have hp' : tmps[p]?.getD undef = .pointer (some ⟨g, 0, none⟩) := by simpa using hp
  simp [results, h, hp', asAddr, run_loadVar_row w g t ty cs fr d hg hu hd hi]

def zc : Array Value := #[.int .i64 0, .int .i64 0, .string ⟨#[]⟩, .int .i64 0, .complex .f64 0 0]
/-- the number so far -/
def NRel (w wr : World) (s : ByteArray) (n k : Nat) : Prop :=
  Fr [] w wr ∧ wr.heap[w.heap.size]? = some (.cells zc 31 (0, 0)) ∧ wr.heap[w.heap.size + 1]? = some (.cells #[.int .i64 3, .int .i64 0, .string (s.extract 0 n), .int .i64 (digits (s.data.toList.take k)), .complex .f64 0 0] 31 (0, 0)) ∧
  ∀ j, j < n → wr.cell? ⟨w.heap.size + 2, j, none⟩ = some (bv (s.data.toList.getD j 0))

theorem NRel.step {w wr : World} {s : ByteArray} {n k : Nat} (h : NRel w wr s n k) {v : Int} (hv : digits (s.data.toList.take (k + 1)) = v) : NRel w (wr.setCell ⟨w.heap.size + 1, 3, none⟩ (.int .i64 v)) s n (k + 1) := by
  obtain ⟨h1, h2, h3, h4⟩ := h
  have f : Fr [w.heap.size + 1] wr (wr.setCell ⟨w.heap.size + 1, 3, none⟩ (.int .i64 v)) := (Fr.refl _ _).setCell (.inl (by simp)) _
  refine ⟨h1.setCell (.inr (by simp)) _, f.obj h2 (by simp), ?_, fun j hj => f.cell (h4 j hj) (by simp)⟩
  rw [hv]
  exact heap_setCell_same _ _ 3 _ _ _ h3
theorem five {w : World} {b : Nat} {a0 a1 a2 a3 a4 : Value} {t : TypeId} (h : w.heap[b]? = some (.cells #[a0, a1, a2, a3, a4] t (0, 0))) :
    w.cell? ⟨b, 0, none⟩ = some a0 ∧ w.cell? ⟨b, 1, none⟩ = some a1 ∧ w.cell? ⟨b, 2, none⟩ = some a2 ∧ w.cell? ⟨b, 3, none⟩ = some a3 ∧ w.cell? ⟨b, 4, none⟩ = some a4 := by
  refine ⟨?_, ?_, ?_, ?_, ?_⟩ <;> (rw [cell_of_row _ _ _ _ _ _ h]; rfl)
abbrev set5 (w : World) (b : Nat) (a0 a1 a2 a3 a4 : Value) : World := ((((w.setCell ⟨b, 0, none⟩ a0).setCell ⟨b, 1, none⟩ a1).setCell ⟨b, 2, none⟩ a2).setCell ⟨b, 3, none⟩ a3).setCell ⟨b, 4, none⟩ a4
theorem set5_same {w : World} {b : Nat} {v0 v1 v2 v3 v4 : Value} {t : TypeId} (h : w.heap[b]? = some (.cells #[v0, v1, v2, v3, v4] t (0, 0))) (a0 a1 a2 a3 a4 : Value) :
    (set5 w b a0 a1 a2 a3 a4).heap[b]? = some (.cells #[a0, a1, a2, a3, a4] t (0, 0)) ∧ Fr [b] w (set5 w b a0 a1 a2 a3 a4) := by
  have h0 := heap_setCell_same _ b 0 _ _ a0 h
  have h1 := heap_setCell_same _ b 1 _ _ a1 h0
  have h2 := heap_setCell_same _ b 2 _ _ a2 h1
  have h3 := heap_setCell_same _ b 3 _ _ a3 h2
  have h4 := heap_setCell_same _ b 4 _ _ a4 h3
  unfold set5
  refine ⟨h4, ?_⟩
  refine ((((((Fr.refl _ _).setCell ?_ _).setCell ?_ _).setCell ?_ _).setCell ?_ _).setCell ?_ _) <;> exact .inl (by simp)
theorem set5_tok {w : World} {b : Nat} (h : w.heap[b]? = some (.cells zc 31 (0, 0))) (a0 a1 a2 a3 a4 : Value) :
    (set5 w b a0 a1 a2 a3 a4).heap[b]? = some (.cells #[a0, a1, a2, a3, a4] 31 (0, 0)) := (set5_same h a0 a1 a2 a3 a4).1
theorem val_of {x : ByteArray} {l : List UInt8} (h : x = bs l) (k a i : Int) (re im : Nat) (e : Value) : Ending.returned (.tuple #[.agg #[.int .i64 k, .int .i64 a, .string x, .int .i64 i, .complex .f64 re im], e]) = .returned (.tuple #[(Tok.mk k a l i re im).val, e]) := by rw [h]; rfl
theorem num_fin {w wz : World} {g : Nat} {a : Act} {r : Tok × Int} {k at0 i e : Int} {re im : Nat} {l : List UInt8} {x : ByteArray} (hr : r = (⟨k, at0, l, i, re, im⟩, e)) (hx : x = bs l) (hz : wz.heap[g]? = some (.cells zc 31 (0, 0))) (f : Fr [] w wz) (hg : w.heap.size ≤ g)
    (hp : a.tmps.getD 2 undef = .pointer (some ⟨g, 0, none⟩)) (he : a.tmps.getD 3 undef = .int .i64 e) (hd : a.defers = []) :
    bodyPost Try.prog Try.f32 (TokPost w r) .ret a (set5 wz g (.int .i64 k) (.int .i64 at0) (.string x) (.int .i64 i) (.complex .f64 re im)) := by
  refine bodyPost_ret (results_row_tmp (fn := Try.f32) rfl _ _ g _ _ _ _ hp (set5_tok hz _ _ _ _ _) tok_under rfl tok_size) hd ⟨?_, ?_⟩
  · rw [he, hr, hx]; rfl
  · refine ((((((f).setCell ?_ _).setCell ?_ _).setCell ?_ _).setCell ?_ _).setCell ?_ _) <;> exact .inr hg
theorem get_at (s : ByteArray) (n : Nat) (h : n < s.size) : s[n] = s.data.toList.getD n 0 := by
  rw [List.getD, List.getElem?_eq_getElem (by rw [len_eq]; exact h)]
  simp [ByteArray.getElem_eq_getElem_data]

end Go.Proofs.Ytlkkekjbcaabcaa
