/- A new block of three cells, stored cell by cell. -/
import Derived.Test.YtapebbejdgeijaaDoorErr
namespace Go.Proofs.YtapebbejdgeijaaDoor
open Go.RowKit

def Cell3 (w : World) (k : Nat) (t : TypeId) (x y z : Value) : Prop := w.heap[k]? = some (.cells #[x, y, z] t (0, 0))
theorem own_keep {w w' : World} {base : Nat} {e : TypeId} {size n : Nat} {v : Value} {xs : List Value} (h : w.ownsRow base e size v n xs) (k : Nat) (hk : some k ≠ v.ownBlock) (hs : ∀ j, j ≠ k → w'.heap[j]? = w.heap[j]?) : w'.ownsRow base e size v n xs := by
  refine ⟨h.1, ?_⟩
  rcases h.2 with h | ⟨g, cap, cur, rfl, h2, h3, h4⟩
  · exact .inl h
  · exact .inr ⟨g, cap, cur, rfl, h2, by rw [hs g (fun e => hk (by rw [← e]; rfl))]; exact h3, h4⟩
variable {w w' : World} {k : Nat} {t : TypeId} {x y z x' y' z' : Value}
theorem Cell3.fz (h : Cell3 w k t x y z) (j : Nat) : w.frozen? ⟨k, j, none⟩ = false := by unfold Cell3 at h; simp [World.frozen?, h]
def set3 (w : World) (k : Nat) (x y z : Value) : World := ((w.setCell ⟨k, 0, none⟩ x).setCell ⟨k, 1, none⟩ y).setCell ⟨k, 2, none⟩ z
theorem set3_size : (set3 w k x y z).heap.size = w.heap.size := by simp [set3]
theorem set3_cell (h : Cell3 w k t x y z) : Cell3 (set3 w k x' y' z') k t x' y' z' := by
  unfold Cell3 at h ⊢
  unfold set3
  rw [heap_setCell_same _ k 2 _ _ z' (heap_setCell_same _ k 1 _ _ y' (heap_setCell_same w k 0 _ _ x' h))]
  rfl
theorem set3_same : ∀ j, j ≠ k → (set3 w k x' y' z').heap[j]? = w.heap[j]? := fun j hj => by
  unfold set3
  rw [Below.heap_setCell _ _ _ _ (show j ≠ k from hj), Below.heap_setCell _ _ _ _ (show j ≠ k from hj), Below.heap_setCell _ _ _ _ (show j ≠ k from hj)]
theorem set3_below {B : Nat} {a : World} (h : Below B a w) (hk : B ≤ k) : Below B a (set3 w k x' y' z') :=
  Below.setCell (Below.setCell (Below.setCell h (show B ≤ k from hk) _) (show B ≤ k from hk) _) (show B ≤ k from hk) _
theorem Cell3.below (h : Cell3 w k t x y z) (hb : Below w.heap.size w w') : Cell3 w' k t x y z := (hb.block k (Array.getElem?_eq_some_iff.1 h).1).trans h
theorem Cell3.lt (h : Cell3 w k t x y z) : k < w.heap.size := (Array.getElem?_eq_some_iff.1 h).1
theorem Cell3.other (h : Cell3 w k t x y z) {g j : Nat} {v : Value} (hg : k ≠ g) : Cell3 (w.setCell ⟨g, j, none⟩ v) k t x y z := (Below.heap_setCell _ _ _ _ (show k ≠ g from hg)).trans h
theorem Cell3.facts (h : Cell3 w k t x y z) (x' y' z' : Value) :
    w.cell? ⟨k, 0, none⟩ = some x ∧ w.frozen? ⟨k, 0, none⟩ = false ∧ (w.setCell ⟨k, 0, none⟩ x').cell? ⟨k, 1, none⟩ = some y ∧ (w.setCell ⟨k, 0, none⟩ x').frozen? ⟨k, 1, none⟩ = false ∧
    ((w.setCell ⟨k, 0, none⟩ x').setCell ⟨k, 1, none⟩ y').cell? ⟨k, 2, none⟩ = some z ∧ ((w.setCell ⟨k, 0, none⟩ x').setCell ⟨k, 1, none⟩ y').frozen? ⟨k, 2, none⟩ = false ∧
    (((w.setCell ⟨k, 0, none⟩ x').setCell ⟨k, 1, none⟩ y').setCell ⟨k, 2, none⟩ z').cell? ⟨k, 0, none⟩ = some x' ∧ (((w.setCell ⟨k, 0, none⟩ x').setCell ⟨k, 1, none⟩ y').setCell ⟨k, 2, none⟩ z').cell? ⟨k, 1, none⟩ = some y' ∧ (((w.setCell ⟨k, 0, none⟩ x').setCell ⟨k, 1, none⟩ y').setCell ⟨k, 2, none⟩ z').cell? ⟨k, 2, none⟩ = some z' := by
  have h1 : Cell3 (w.setCell ⟨k, 0, none⟩ x') k t x' y z := by unfold Cell3 at h ⊢; rw [heap_setCell_same w k 0 _ _ x' h]; rfl
  have h2 : Cell3 ((w.setCell ⟨k, 0, none⟩ x').setCell ⟨k, 1, none⟩ y') k t x' y' z := by unfold Cell3 at h1 ⊢; rw [heap_setCell_same _ k 1 _ _ y' h1]; rfl
  have h3 : Cell3 (((w.setCell ⟨k, 0, none⟩ x').setCell ⟨k, 1, none⟩ y').setCell ⟨k, 2, none⟩ z') k t x' y' z' := by unfold Cell3 at h2 ⊢; rw [heap_setCell_same _ k 2 _ _ z' h2]; rfl
  exact ⟨(cells3 h).1, h.fz 0, (cells3 h1).2.1, h1.fz 1, (cells3 h2).2.2, h2.fz 2, (cells3 h3).1, (cells3 h3).2.1, (cells3 h3).2.2⟩
/-- A chain stays while one block of another type turns. -/
theorem Chain.only {S : Nat → Addr} {w w' : World} {k : Nat} {c : Array Value} {t : TypeId} {f : Nat × Nat} (hk : w.heap[k]? = some (.cells c t f)) (ht : t ≠ 97) (hs : ∀ j, j ≠ k → w'.heap[j]? = w.heap[j]?) : ∀ {l : List (ByteArray × Int)} {v : Value} {i : Nat}, Chain S w v i l → Chain S w' v i l
  | [], _, _, h => h
  | (_, _) :: _, _, _, ⟨b, v', e1, e2, e3⟩ => ⟨b, v', e1, (hs b (fun e => by
      rw [e, hk] at e2
      injection e2 with e2
      injection e2 with _ e2
      exact ht e2)).trans e2, Chain.only hk ht hs e3⟩
end Go.Proofs.YtapebbejdgeijaaDoor
