/-
  MonitorPlays: a pair who waits, loaded whole; the document's Notify, plain.
-/
import Derived.Test.YthdmgjkipiaccaaRdE
import Derived.Deep.WholeRow
namespace Go.Proofs.Ythdmgjkipiaccaa
open Go.RowKit
section
variable {P : Program}
theorem exec_load {ρ : Operand → Value} {o : Oper} {T : TypeId} {A : Operand} {w : World} {v : Value} (ho : o.op = .load T A) (h : (Instr.loadAt T (ρ A)).run P w = .ok v w) : (execOp ρ o).run P w = .ok (.value v) w := by
  unfold execOp
  rw [ho]
  simp [h, Result.andThen]
theorem run_loadVar_at (w : World) (a : Addr) (ty : TypeId) (cs : List Value) (d : TypeDesc) (hu : P.underlying ty = some d) (hd : (match d with | .struct _ | .array _ _ => true | _ => false) = true) (hi : (P.info? ty).map (·.size) = some cs.length)
    (h : ∀ j v, cs[j]? = some v → w.cell? (a.add j) = some v) : (loadVar ty a).run P w = .ok (.agg cs.toArray) w := by
  have hl := run_loadCells_list (P := P) w a cs h
  cases hq : P.info? ty with
  | none => simp [hq] at hi
  | some i =>
    have hs : i.size = cs.length := by simpa [hq] using hi
    have hagg : (isAgg ty).run P w = .ok true w := by
      unfold isAgg
      rw [Sem.run_bind, run_underlying hu w]
      cases d <;> simp_all
    simp [loadVar, Sem.run_bind, hagg, sizeOf, typeInfo, hq, hs, hl]
end
theorem size_wts : (Try.prog.info? 80).map (·.size) = some 2 := by kernel_rfl
theorem load_wts {w : World} {b o : Nat} {x y : Value} (h1 : w.cell? ⟨b, o, none⟩ = some x) (h2 : w.cell? ⟨b, o + 1, none⟩ = some y) : (Instr.loadAt 80 (.pointer (some ⟨b, o, none⟩))).run Try.prog w = .ok (.agg #[x, y]) w := by
  have := run_loadVar_at (P := Try.prog) w ⟨b, o, none⟩ 80 [x, y] _ Try.underlying80 rfl size_wts (fun j v hv => by
    rw [Addr.add_lit]
    match j with
    | 0 => simp only [List.getElem?_cons_zero, Option.some.injEq] at hv; subst hv; exact h1
    | 1 => simp only [List.getElem?_cons_succ, List.getElem?_cons_zero, Option.some.injEq] at hv; subst hv; exact h2
    | j + 2 => simp at hv)
  simp only [Instr.loadAt, Instr.sureAddr, Sem.run_bind, Sem.run_pure, Result.andThen]
  exact this
/-- the cells of the lock that is put in -/
theorem DocT.locki {w : World} {tb b cap : Nat} {G : List RG} {i : Nat} {g : RG} (h : DocT w tb (.slice (some ⟨b, 0, none⟩) G.length cap) (G.set i g)) (hi : i < G.length) :
    w.cell? ⟨b, i * 6 + 4, none⟩ = some g.ve ∧ w.cell? ⟨b, i * 6 + 5, none⟩ = some g.vw ∧ ∀ k, w.frozen? ⟨b, k, none⟩ = false := by
  have h' : DocT w tb (.slice (some ⟨b, 0, none⟩) (G.set i g).length cap) (G.set i g) := by rw [List.length_set]; exact h
  obtain ⟨b', cap', e, q0, q1, q2, q3, q4, q5, fz⟩ := h'.lock (i := i) (by rw [List.length_set]; exact hi)
  injection e with e1 e2 e3
  injection e1 with e1
  injection e1 with e1 _ _
  subst e1
  rw [List.getElem_set_self] at q4 q5
  exact ⟨q4, q5, fz⟩
/-- the wait list's row is not the table's -/
theorem WQ.ne {w : World} {tb b cap n ce be off : Nat} {G : List RG} {l : List (Int × Int)} (h : DocT w tb (.slice (some ⟨b, 0, none⟩) n cap) G) (hq : WQ w (.slice (some ⟨be, off, none⟩) l.length ce) l) : be ≠ b := by
  intro e
  obtain ⟨a', cap', e', _, _, h3⟩ := hq
  injection e' with e1 e2 e3
  rcases h3 with ⟨h3, _⟩ | ⟨b', off', cur, h3, h4, _⟩
  · rw [h3] at e1; cases e1
  · rw [h3] at e1
    cases e1
    exact h.noW b (by simp [fpv, Value.ownBlock]) cur (by rw [← e]; exact h4)
def slen : Value → Nat
  | .slice _ n _ => n
  | _ => 0
theorem rnotified_end {x : RL} {all : Bool} {d r : List (Int × Int)} (h : x.wait = d ++ r) (h1 : all = true → r = []) (h2 : all = false → (d = [] ∧ r = []) ∨ d.length = 1) :
    x.notified all = (d.map (·.1), { x with entry := x.entry ++ d, wait := r }) := by
  unfold RL.notified
  cases all with
  | true =>
    rw [if_pos rfl, h, h1 rfl, List.append_nil]
  | false =>
    rw [if_neg (by simp), h]
    rcases h2 rfl with ⟨rfl, rfl⟩ | h2
    · simp only [List.append_nil, List.map_nil]
      obtain ⟨_, _, _, _, _, _⟩ := x
      simp only at h
      subst h
      rfl
    · obtain ⟨p, rfl⟩ := List.length_eq_one_iff.1 h2
      rfl
theorem rNotify_none {R : List RL} {a t : Int} {all : Bool} (h : rOwned R a t = none) : rNotify R a t all = (([], 130), R) := by unfold rNotify; rw [h]
theorem rNotify_some {G : List RG} {a t : Int} {all : Bool} {i : Nat} (h : rOwned (G.map RG.x) a t = some i) (hi : i < G.length) : rNotify (G.map RG.x) a t all = (((G[i].x.notified all).1, 0), (G.map RG.x).set i (G[i].x.notified all).2) := by
  unfold rNotify; rw [h]
  simp only []
  rw [gx hi]

end Go.Proofs.Ythdmgjkipiaccaa
