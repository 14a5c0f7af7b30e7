/- A map from whole numbers to whole numbers that the program makes, told by a function. -/
import Derived.Test.YtapebbejdgeijaaDoorMaps
import Derived.Maps.Keyed
namespace Go.Proofs.YtapebbejdgeijaaDoor
open Go.RowKit Go.ChangeMaps

def MapII (w : World) (r n : Nat) (f : Int → Option Int) : Prop :=
  ∃ D : DataW Unit, w.ownsMap Tryd.prog 3 (plainElem Tryd.prog 3) r n D ∧ Maps.size D = n ∧
    ∀ s : Int, Maps.has D (.int .i64 s) = (f s).isSome ∧ ∀ x, f s = some x → ∀ z, D.atKey (.int .i64 s) z = .lit (.int .i64 x)

theorem MapII.made (w : World) : MapII (w.alloc (.map #[] 0)) w.heap.size 0 (fun _ => none) :=
  ⟨_, World.ownsMap_made _ _ _ _, rfl, fun s => ⟨rfl, fun x h => by cases h⟩⟩
theorem MapII.lt {w : World} {r n : Nat} {f : Int → Option Int} (h : MapII w r n f) : r < w.heap.size := by
  obtain ⟨D, h, _⟩ := h
  exact h.lt
theorem MapII.of_heap {w w' : World} {r n : Nat} {f : Int → Option Int} (h : MapII w r n f) (hh : w'.heap[r]? = w.heap[r]?) : MapII w' r n f := by
  obtain ⟨D, ⟨es, clock, h1, h2⟩, h3⟩ := h
  exact ⟨D, ⟨es, clock, hh.trans h1, h2⟩, h3⟩
theorem MapII.not_cells {w : World} {r n : Nat} {f : Int → Option Int} (h : MapII w r n f) (c : Array Value) (t : TypeId) (fr : Nat × Nat) : w.heap[r]? ≠ some (.cells c t fr) := fun hh => by
  obtain ⟨D, ⟨es, clock, h1, _⟩, _⟩ := h
  rw [h1] at hh; cases hh

theorem MapII.lookup {w : World} {r n : Nat} {f : Int → Option Int} (h : MapII w r n f) (s : Int) (hs : i64ok s) :
    (Instr.lookup 127 (.map (some r)) (.int .i64 s) true).run Tryd.prog w = .ok (.tuple #[.int .i64 ((f s).getD 0), .bool (f s).isSome]) w := by
  obtain ⟨D, h, _, hD⟩ := h
  obtain ⟨v, ps, hrun, hR⟩ := h.look_ok (Maps.int_keyed Tryd.underlying3) Tryd.underlying127 (Tryd.zeroInt w) (plainElem_int Tryd.underlying3 (by rfl)) (Maps.keyOf_int_mk Tryd.underlying3 (i64_wf hs))
  rw [hrun, (hD _).1]
  obtain ⟨a, rfl, h1, _⟩ := plainElem_int_inv Tryd.underlying3 hR
  have h2 : D.atKey (.int .i64 s) (.lit (.int .i64 0)) = .lit (.int .i64 a) := congrArg Prod.fst h1
  cases hf : f s with
  | none =>
    have h3 := (hD s).1
    rw [hf] at h3
    rw [Maps.atKey_of_not_has h3] at h2
    simp only [DataW.lit.injEq, Lit.int.injEq, true_and] at h2
    rw [← h2]; rfl
  | some x =>
    rw [(hD _).2 x hf] at h2
    simp only [DataW.lit.injEq, Lit.int.injEq, true_and] at h2
    rw [← h2]; rfl
theorem MapII.look {w : World} {r n : Nat} {f : Int → Option Int} (h : MapII w r n f) (s : Int) (hs : i64ok s) :
    (Instr.lookup 127 (.map (some r)) (.int .i64 s) false).run Tryd.prog w = .ok (.int .i64 ((f s).getD 0)) w := by
  obtain ⟨D, h, _, hD⟩ := h
  obtain ⟨v, ps, hrun, hR⟩ := h.lookup (Maps.int_keyed Tryd.underlying3) Tryd.underlying127 (Tryd.zeroInt w) (plainElem_int Tryd.underlying3 (by rfl)) (Maps.keyOf_int_mk Tryd.underlying3 (i64_wf hs))
  rw [hrun]
  obtain ⟨a, rfl, h1, _⟩ := plainElem_int_inv Tryd.underlying3 hR
  have h2 : D.atKey (.int .i64 s) (.lit (.int .i64 0)) = .lit (.int .i64 a) := congrArg Prod.fst h1
  cases hf : f s with
  | none =>
    have h3 := (hD s).1
    rw [hf] at h3
    rw [Maps.atKey_of_not_has h3] at h2
    simp only [DataW.lit.injEq, Lit.int.injEq, true_and] at h2
    rw [← h2]; rfl
  | some x =>
    rw [(hD _).2 x hf] at h2
    simp only [DataW.lit.injEq, Lit.int.injEq, true_and] at h2
    rw [← h2]; rfl

theorem MapII.len {w : World} {r n : Nat} {f : Int → Option Int} (h : MapII w r n f) (ty : TypeId) : (Builtin.len_ #[127] ty #[.map (some r)]).run Tryd.prog w = .ok (.int .i64 n) w := by
  obtain ⟨D, h, hn, _⟩ := h
  rw [h.len Tryd.underlying127 ty, hn]

/-- A number that is not yet a key. -/
theorem MapII.store {w : World} {r n : Nat} {f : Int → Option Int} (h : MapII w r n f) (hn : n < maxLen) (s : Int) (hs : i64ok s) (hno : f s = none) (x : Int) (hx : i64ok x) :
    ∃ w', (Instr.mapUpdate 127 (.map (some r)) (.int .i64 s) (.int .i64 x)).run Tryd.prog w = .ok () w' ∧ MapII w' r (n + 1) (fun t => if t = s then some x else f t) ∧ w.grownBy w' (some r) ∧ w'.heap.size = w.heap.size := by
  obtain ⟨D, h, hsz, hD⟩ := h
  obtain ⟨w', hrun, hown, hturn⟩ := h.store (Maps.int_keyed Tryd.underlying3) Tryd.underlying127 hn (Maps.keyOf_int_mk Tryd.underlying3 (i64_wf hs)) (plainElem_int Tryd.underlying3 (i64_wf hx))
  have hhas : Maps.has D (.int .i64 s) = false := by rw [(hD s).1, hno]; rfl
  refine ⟨w', hrun, ⟨_, hown, by rw [Maps.size_put (h.tidy (Maps.int_keyed Tryd.underlying3)), hhas, hsz]; rfl, fun t => ?_⟩, hturn.grown, ?_⟩
  · by_cases ht : t = s
    · subst ht
      dsimp only
      rw [if_pos rfl]
      refine ⟨Maps.has_put_same h.isMap (k := .int .i64 t) trivial _, fun y hy z => ?_⟩
      obtain rfl := Option.some.inj hy
      exact Maps.atKey_put_same h.isMap (k := .int .i64 t) trivial _ _
    · dsimp only
      rw [if_neg ht]
      have hne : (Lit.int .i64 t) ≠ .int .i64 s := fun e => ht (by injection e)
      refine ⟨by rw [Maps.has_put_other hne]; exact (hD t).1, fun y hy z => ?_⟩
      rw [Maps.atKey_put_other hne]
      exact (hD t).2 y hy z
  · obtain ⟨es, clock, es', clock', h1, rfl⟩ := hturn
    simp [setBlock]
end Go.Proofs.YtapebbejdgeijaaDoor
