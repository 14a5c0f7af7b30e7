/- When one block of ints alone turns, both bags stay. -/
import Derived.Test.YtapebbejdgeijaaDoorPlayC
import Derived.Test.YtapebbejdgeijaaDoorLent
namespace Go.Proofs.YtapebbejdgeijaaDoor
open Go.RowKit Go.Extern.Stop Go.Stop Go.Extern Go.Deep

theorem BagAt.only {w w' : World} {base b r n k : Nat} {sets : List (List Int)} {c : Array Value} {f : Nat × Nat} (h : BagAt w base b r n sets) (hk : w.heap[k]? = some (.cells c 3 f)) (hs : ∀ j, j ≠ k → w'.heap[j]? = w.heap[j]?) : BagAt w' base b r n sets := by
  obtain ⟨vs, rows, h⟩ := h
  refine ⟨vs, rows, ?_, h.lb, h.lr, own_same h.own k (own_not_block h.own hk (by decide)) hs, ?_, ?_, h.rng, h.len, h.nle⟩
  · rw [hs b (fun e => by
      have := h.blk
      rw [e, hk] at this
      injection this with this
      injection this with _ this
      exact absurd this (by decide))]
    exact h.blk
  · intro i ws hi
    obtain ⟨v, h1, h2⟩ := h.elt i ws hi
    exact ⟨v, h1, own_same h2 k (own_not_block h2 hk (by decide)) hs⟩
  · refine h.map.of_heap (hs r (fun e => ?_))
    obtain ⟨D, ⟨es, clock, h1, _⟩, _⟩ := h.map
    rw [e, hk] at h1; cases h1
theorem RefAt.only {X : Nat → Prop} {w w' : World} {base b r n k : Nat} {sets : List (List Int)} {c : Array Value} {f : Nat × Nat} (h : RefAt w base b r n sets X) (hX : ¬ X k) (hk : w.heap[k]? = some (.cells c 3 f)) (hs : ∀ j, j ≠ k → w'.heap[j]? = w.heap[j]?) : RefAt w' base b r n sets X := by
  obtain ⟨vs, rows, h⟩ := h
  refine ⟨vs, rows, ?_, h.lb, h.lr, own_same h.own k (own_not_block h.own hk (by decide)) hs, ?_, ?_, h.cln, h.len, h.nle, h.apart⟩
  · rw [hs b (fun e => by
      have := h.blk
      rw [e, hk] at this
      injection this with this
      injection this with _ this
      exact absurd this (by decide))]
    exact h.blk
  · intro i ws hi
    obtain ⟨v, h1, h2⟩ := h.elt i ws hi
    exact ⟨v, h1, own_same h2 k (fun e => hX (h.apart v (List.mem_of_getElem? h1) k e.symm)) hs⟩
  · refine h.map.of_heap (hs r (fun e => ?_))
    obtain ⟨D, ⟨es, clock, h1, _⟩, _⟩ := h.map
    rw [e, hk] at h1; cases h1
theorem BagIn.only {w w' : World} {base r k : Nat} {p : Value} {st : BSt} {c : Array Value} {f : Nat × Nat} (h : BagIn w base p r st) (hk : w.heap[k]? = some (.cells c 3 f)) (hs : ∀ j, j ≠ k → w'.heap[j]? = w.heap[j]?) (hz : w.heap.size ≤ w'.heap.size) : BagIn w' base p r st := by
  cases st with
  | none => exact ⟨h.1, Nat.le_trans h.2 hz⟩
  | some s => obtain ⟨b, rfl, h⟩ := h; exact ⟨b, rfl, h.only hk hs⟩
theorem RefIn.only {X : Nat → Prop} {w w' : World} {base r k : Nat} {p : Value} {st : BSt} {c : Array Value} {f : Nat × Nat} (h : RefIn w base p r X st) (hX : ¬ X k) (hk : w.heap[k]? = some (.cells c 3 f)) (hs : ∀ j, j ≠ k → w'.heap[j]? = w.heap[j]?) (hz : w.heap.size ≤ w'.heap.size) : RefIn w' base p r X st := by
  cases st with
  | none => exact ⟨h.1, Nat.le_trans h.2 hz⟩
  | some s => obtain ⟨b, rfl, h⟩ := h; exact ⟨b, rfl, h.only hX hk hs⟩
end Go.Proofs.YtapebbejdgeijaaDoor
