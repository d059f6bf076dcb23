/-
  append to a slice that owns its row, of elements of k cells each: at the operation, and as one step of a region that draws its order.
-/
import Derived.Test.YthdmgjkipiaccaaSlK
import Derived.Maps.AppendAt
namespace Go.Proofs.Ythdmgjkipiaccaa
open Go.RowKit

section
variable {P : Program} {w : World}
theorem run_append_rv (t e : TypeId) (i : TypeInfo) (z : Value) (k bytes : Nat) (ht : P.underlying t = some (.slice e)) (hi : P.info? e = some i) (hz : i.zero = some z)
    (hsize : i.size = k) (hby : i.bytes = bytes) (hzs : z.cells.size = k) (hk : 0 < k) (v : Value) (n : Nat) (xs : List Value) (hown : RV w e k v n xs)
    (ad : Addr) (m : Nat) (news : List Value) (hl : news.length = m * k) (hnews : ∀ j u, news[j]? = some u → w.cell? (ad.add j) = some u) (h1 : ∀ u ∈ news, u.oneCell' = true)
    (h63 : n + m ≤ maxLen) (hbytes : (n + m) * bytes ≤ 140737488355328) (ty : TypeId) (c : Nat) :
    ∃ v' w', (Builtin.append_ #[t, t] ty #[v, .slice (some ad) m c]).run P w = .ok v' w' ∧ RV w' e k v' (n + m) (xs ++ news) ∧ Fr (fpv v) w w' ∧ ∀ b ∈ fpv v', b ∈ fpv v ∨ w.heap.size ≤ b := by
  obtain ⟨v', w', hr, h2, h3, h4, h5⟩ := run_append_own_at (P := P) w 0 t ty e i z k bytes ht hi hz hsize hby hzs hk v n xs hown ad m c news hl hnews h1 h63 hbytes (Nat.zero_le _)
  exact ⟨v', w', hr, h2, grownFr h3, fun b hb => own_new h5 hb⟩
theorem step_append_rv {ops : Array Oper} {o : Oper} {a : Act} {K : Act → World → Prop} {Q : Exit → Act → World → Prop} {E : Prop} (hgd : o.guard = none) (s x : Operand) (t : TypeId)
    (ho : o.op = .call { callee := .builtin .append, args := #[s, x], argTypes := #[t, t] }) (e : TypeId) (i : TypeInfo) (z : Value) (k bytes : Nat) (ht : P.underlying t = some (.slice e)) (hi : P.info? e = some i) (hz : i.zero = some z)
    (hsize : i.size = k) (hby : i.bytes = bytes) (hzs : z.cells.size = k) (hk : 0 < k) (v : Value) (n : Nat) (xs : List Value) (hs : a.eval s = v) (hown : RV w e k v n xs)
    (ad : Addr) (m c : Nat) (news : List Value) (hx : a.eval x = .slice (some ad) m c) (hl : news.length = m * k) (hnews : ∀ j u, news[j]? = some u → w.cell? (ad.add j) = some u) (h1 : ∀ u ∈ news, u.oneCell' = true)
    (h63 : n + m ≤ maxLen) (hbytes : (n + m) * bytes ≤ 140737488355328)
    (h : ∀ a' c' w', RV w' e k (.slice a' (n + m) c') (n + m) (xs ++ news) → Fr (fpv v) w w' → (∀ b ∈ fpv (.slice a' (n + m) c'), b ∈ fpv v ∨ w.heap.size ≤ b) → K (a.put o.dst (.slice a' (n + m) c')) w') :
    if Region.wanted o (yielded ops a.tmps) = true then Oper.wp P o a w K Q else E := by
  obtain ⟨v', w', hr, h2, h3, h4⟩ := run_append_rv t e i z k bytes ht hi hz hsize hby hzs hk v n xs hown ad m news hl hnews h1 h63 hbytes o.type c
  obtain ⟨a', c', rfl, _, _⟩ := h2.form
  exact stepBi .append Builtin.append_ bi_append hgd s x t t ho v _ hs hx hr (h _ _ _ h2 h3 h4)
theorem wp_append_rv {ops : Array Oper} {rest : List Oper} {o : Oper} {a : Act} {Q : Exit → Act → World → Prop} (hgd : o.guard = none) (s x : Operand) (t : TypeId)
    (ho : o.op = .call { callee := .builtin .append, args := #[s, x], argTypes := #[t, t] }) (e : TypeId) (i : TypeInfo) (z : Value) (k bytes : Nat) (ht : P.underlying t = some (.slice e)) (hi : P.info? e = some i) (hz : i.zero = some z)
    (hsize : i.size = k) (hby : i.bytes = bytes) (hzs : z.cells.size = k) (hk : 0 < k) (v : Value) (n : Nat) (xs : List Value) (hs : a.eval s = v) (hown : RV w e k v n xs)
    (ad : Addr) (m c : Nat) (news : List Value) (hx : a.eval x = .slice (some ad) m c) (hl : news.length = m * k) (hnews : ∀ j u, news[j]? = some u → w.cell? (ad.add j) = some u) (h1 : ∀ u ∈ news, u.oneCell' = true)
    (h63 : n + m ≤ maxLen) (hbytes : (n + m) * bytes ≤ 140737488355328)
    (h : ∀ a' c' w', RV w' e k (.slice a' (n + m) c') (n + m) (xs ++ news) → Fr (fpv v) w w' → (∀ b ∈ fpv (.slice a' (n + m) c'), b ∈ fpv v ∨ w.heap.size ≤ b) → wpList P ops Q rest (a.put o.dst (.slice a' (n + m) c')) w') :
    wpList P ops Q (o :: rest) a w := by
  obtain ⟨v', w', hr, h2, h3, h4⟩ := run_append_rv t e i z k bytes ht hi hz hsize hby hzs hk v n xs hown ad m news hl hnews h1 h63 hbytes o.type c
  obtain ⟨a', c', rfl, _, _⟩ := h2.form
  exact wpBi .append Builtin.append_ bi_append hgd s x t t ho v _ hs hx hr (h _ _ _ h2 h3 h4)
end
end Go.Proofs.Ythdmgjkipiaccaa
