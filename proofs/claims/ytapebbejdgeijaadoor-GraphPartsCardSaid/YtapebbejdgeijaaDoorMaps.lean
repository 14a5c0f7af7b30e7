/- A map from texts to whole numbers that the program makes, told by a function. -/
import Derived.Test.YtapebbejdgeijaaDoorProg
import Derived.Test.YtapebbejdgeijaaDoorBase
import Derived.Maps.OwnSet
import Derived.Maps.Views
import Derived.StringKeys
namespace Go.Proofs.YtapebbejdgeijaaDoor
open Go.RowKit Go.ChangeMaps

theorem Tryd.zeroInt (w : World) : (zeroValue 3).run Tryd.prog w = .ok (.int .i64 0) w := by kernel_rfl
def i64ok (x : Int) : Prop := -9223372036854775808 ≤ x ∧ x ≤ 9223372036854775807
theorem i64_wf {x : Int} (h : i64ok x) : (Lit.int .i64 x).wf = true := WalkArith.wf_i64 h

def MapSI (w : World) (r n : Nat) (f : List UInt8 → Option Int) : Prop :=
  ∃ D : DataW Unit, w.ownsMap Tryd.prog 9 (plainElem Tryd.prog 3) r n D ∧
    ∀ s : List UInt8, Maps.has D (.string s) = (f s).isSome ∧ ∀ x, f s = some x → ∀ z, D.atKey (.string s) z = .lit (.int .i64 x)

theorem MapSI.made (w : World) : MapSI (w.alloc (.map #[] 0)) w.heap.size 0 (fun _ => none) :=
  ⟨_, World.ownsMap_made _ _ _ _, fun s => ⟨rfl, fun x h => by cases h⟩⟩

theorem MapSI.lt {w : World} {r n : Nat} {f : List UInt8 → Option Int} (h : MapSI w r n f) : r < w.heap.size := by
  obtain ⟨D, h, _⟩ := h
  exact h.lt

theorem MapSI.of_heap {w w' : World} {r n : Nat} {f : List UInt8 → Option Int} (h : MapSI w r n f) (hh : w'.heap[r]? = w.heap[r]?) : MapSI w' r n f := by
  obtain ⟨D, ⟨es, clock, h1, h2⟩, h3⟩ := h
  exact ⟨D, ⟨es, clock, hh.trans h1, h2⟩, h3⟩

theorem MapSI.lookup {w : World} {r n : Nat} {f : List UInt8 → Option Int} (h : MapSI w r n f) (s : ByteArray) (hs : s.size ≤ maxLen) :
    (Instr.lookup 52 (.map (some r)) (.string s) true).run Tryd.prog w = .ok (.tuple #[.int .i64 ((f s.data.toList).getD 0), .bool (f s.data.toList).isSome]) w := by
  obtain ⟨D, h, hD⟩ := h
  obtain ⟨v, ps, hrun, hR⟩ := h.look_ok (Maps.string_keyed Tryd.underlying9) Tryd.underlying52 (Tryd.zeroInt w) (plainElem_int Tryd.underlying3 (by rfl)) (WideMaps.keyOf_string_mk Tryd.underlying9 hs)
  rw [hrun, (hD _).1]
  obtain ⟨a, rfl, h1, _⟩ := plainElem_int_inv Tryd.underlying3 hR
  have h2 : D.atKey (.string s.data.toList) (.lit (.int .i64 0)) = .lit (.int .i64 a) := congrArg Prod.fst h1
  cases hf : f s.data.toList with
  | none =>
    have h3 := (hD s.data.toList).1
    rw [hf] at h3
    rw [Maps.atKey_of_not_has h3] at h2
    simp only [DataW.lit.injEq, Lit.int.injEq, true_and] at h2
    rw [← h2]; rfl
  | some x =>
    rw [(hD _).2 x hf] at h2
    simp only [DataW.lit.injEq, Lit.int.injEq, true_and] at h2
    rw [← h2]; rfl

theorem MapSI.store {w : World} {r n : Nat} {f : List UInt8 → Option Int} (h : MapSI w r n f) (hn : n < maxLen) (s : ByteArray) (hs : s.size ≤ maxLen) (x : Int) (hx : i64ok x) :
    ∃ w', (Instr.mapUpdate 52 (.map (some r)) (.string s) (.int .i64 x)).run Tryd.prog w = .ok () w' ∧ MapSI w' r (n + 1) (fun t => if t = s.data.toList then some x else f t) ∧ w.grownBy w' (some r) ∧ w'.heap.size = w.heap.size := by
  obtain ⟨D, h, hD⟩ := h
  obtain ⟨w', hrun, hown, hturn⟩ := h.store (Maps.string_keyed Tryd.underlying9) Tryd.underlying52 hn (WideMaps.keyOf_string_mk Tryd.underlying9 hs) (plainElem_int Tryd.underlying3 (i64_wf hx))
  refine ⟨w', hrun, ⟨_, hown, fun t => ?_⟩, hturn.grown, ?_⟩
  · by_cases ht : t = s.data.toList
    · subst ht
      dsimp only
      rw [if_pos rfl]
      refine ⟨Maps.has_put_same h.isMap (k := .string s.data.toList) trivial _, fun y hy z => ?_⟩
      obtain rfl := Option.some.inj hy
      exact Maps.atKey_put_same h.isMap (k := .string s.data.toList) trivial _ _
    · dsimp only
      rw [if_neg ht]
      have hne : (Lit.string t) ≠ .string s.data.toList := fun e => ht (by injection e)
      refine ⟨by rw [Maps.has_put_other hne]; exact (hD t).1, fun y hy z => ?_⟩
      rw [Maps.atKey_put_other hne]
      exact (hD t).2 y hy z
  · obtain ⟨es, clock, es', clock', h1, rfl⟩ := hturn
    simp [setBlock]
end Go.Proofs.YtapebbejdgeijaaDoor
