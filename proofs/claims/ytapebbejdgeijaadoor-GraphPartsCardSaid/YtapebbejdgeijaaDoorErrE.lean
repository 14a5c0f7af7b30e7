/- A struct result edenraw.Err in its cell; Bad. -/
import Derived.Test.YtapebbejdgeijaaDoorRaw
namespace Go.Proofs.YtapebbejdgeijaaDoor
open Go.RowKit Go.Extern.Stop Go.Stop Go.Extern Go.Deep

theorem own_same {w w' : World} {base : Nat} {e : TypeId} {size n : Nat} {v : Value} {xs : List Value} (h : w.ownsRow base e size v n xs) (k : Nat) (hk : some k ≠ v.ownBlock) (hs : ∀ j, j ≠ k → w'.heap[j]? = w.heap[j]?) : w'.ownsRow base e size v n xs := by
  refine ⟨h.1, ?_⟩
  rcases h.2 with h | ⟨g, cap, cur, rfl, h2, h3, h4⟩
  · exact .inl h
  · exact .inr ⟨g, cap, cur, rfl, h2, by rw [hs g (fun e => hk (by rw [← e]; rfl))]; exact h3, h4⟩
theorem ErrVal.same {w w' : World} {base : Nat} {v : Value} {n : Int} {l : List (ByteArray × Int)} (h : ErrVal w base v n l) {k : Nat} {c : Array Value} {f : Nat × Nat} (hk : w.heap[k]? = some (.cells c 39 f)) (hs : ∀ j, j ≠ k → w'.heap[j]? = w.heap[j]?) : ErrVal w' base v n l := by
  obtain ⟨a, b, rfl, h1, h2⟩ := h
  exact ⟨a, b, rfl, own_same h1 k (own_not_block h1 hk (by decide)) hs, own_same h2 k (own_not_block h2 hk (by decide)) hs⟩
theorem ErrVal.below {w w' : World} {base : Nat} {v : Value} {n : Int} {l : List (ByteArray × Int)} (h : ErrVal w base v n l) (hb : Below w.heap.size w w') : ErrVal w' base v n l := by
  obtain ⟨a, b, rfl, h1, h2⟩ := h
  exact ⟨a, b, rfl, own_below h1 hb (Nat.le_refl _), own_below h2 hb (Nat.le_refl _)⟩
def zeroErr : Value := .agg #[.int .i64 0, .slice none 0 0, .slice none 0 0]
theorem ErrVal.zero (w : World) (base : Nat) : ErrVal w base zeroErr 0 [] := ⟨_, _, rfl, World.ownsRow_nil _ _ _ _, World.ownsRow_nil _ _ _ _⟩

/-- The cell of the named result. -/
def emptyErr : Obj := .cells #[.int .i64 0, .slice none 0 0, .slice none 0 0] 39
structure ErrCell (w : World) (k : Nat) (x y z : Value) : Prop where
  blk : w.heap[k]? = some (.cells #[x, y, z] 39 (0, 0))
theorem ErrCell.c0 {w : World} {k : Nat} {x y z : Value} (h : ErrCell w k x y z) : w.cell? ⟨k, 0, none⟩ = some x := (cells3 h.blk).1
theorem ErrCell.c1 {w : World} {k : Nat} {x y z : Value} (h : ErrCell w k x y z) : w.cell? ⟨k, 1, none⟩ = some y := (cells3 h.blk).2.1
theorem ErrCell.c2 {w : World} {k : Nat} {x y z : Value} (h : ErrCell w k x y z) : w.cell? ⟨k, 2, none⟩ = some z := (cells3 h.blk).2.2
theorem ErrCell.fz {w : World} {k : Nat} {x y z : Value} (h : ErrCell w k x y z) (j : Nat) : w.frozen? ⟨k, j, none⟩ = false := by simp [World.frozen?, h.blk]
def setErr (w : World) (k : Nat) (x y z : Value) : World := ((w.setCell ⟨k, 0, none⟩ x).setCell ⟨k, 1, none⟩ y).setCell ⟨k, 2, none⟩ z
theorem setErr_cell {w : World} {k : Nat} {x y z x' y' z' : Value} (h : ErrCell w k x y z) : ErrCell (setErr w k x' y' z') k x' y' z' := by
  refine ⟨?_⟩
  unfold setErr
  rw [heap_setCell_same _ k 2 _ _ z' (heap_setCell_same _ k 1 _ _ y' (heap_setCell_same w k 0 _ _ x' h.blk))]
  rfl
theorem setErr_same {w : World} {k : Nat} {x' y' z' : Value} : ∀ j, j ≠ k → (setErr w k x' y' z').heap[j]? = w.heap[j]? := fun j hj => by
  unfold setErr
  rw [Below.heap_setCell _ _ _ _ (show j ≠ k from hj), Below.heap_setCell _ _ _ _ (show j ≠ k from hj), Below.heap_setCell _ _ _ _ (show j ≠ k from hj)]
theorem setErr_below {B : Nat} {a w : World} {k : Nat} {x' y' z' : Value} (h : Below B a w) (hk : B ≤ k) : Below B a (setErr w k x' y' z') :=
  Below.setCell (Below.setCell (Below.setCell h (show B ≤ k from hk) _) (show B ≤ k from hk) _) (show B ≤ k from hk) _
theorem ErrCell.new (w : World) : ErrCell (w.alloc (.cells #[.int .i64 0, .slice none 0 0, .slice none 0 0] 39)) w.heap.size (.int .i64 0) (.slice none 0 0) (.slice none 0 0) := ⟨heap_alloc_new w _⟩
theorem ErrCell.below {w w' : World} {k : Nat} {x y z : Value} (h : ErrCell w k x y z) (hb : Below w.heap.size w w') : ErrCell w' k x y z := ⟨(hb.block k (Array.getElem?_eq_some_iff.1 h.blk).1).trans h.blk⟩

theorem ErrCell.facts {w : World} {k : Nat} {x y z : Value} (h : ErrCell w k x y z) (x' y' z' : Value) :
    w.cell? ⟨k, 0, none⟩ = some x ∧ w.frozen? ⟨k, 0, none⟩ = false ∧ (w.setCell ⟨k, 0, none⟩ x').cell? ⟨k, 1, none⟩ = some y ∧ (w.setCell ⟨k, 0, none⟩ x').frozen? ⟨k, 1, none⟩ = false ∧
    ((w.setCell ⟨k, 0, none⟩ x').setCell ⟨k, 1, none⟩ y').cell? ⟨k, 2, none⟩ = some z ∧ ((w.setCell ⟨k, 0, none⟩ x').setCell ⟨k, 1, none⟩ y').frozen? ⟨k, 2, none⟩ = false ∧
    (((w.setCell ⟨k, 0, none⟩ x').setCell ⟨k, 1, none⟩ y').setCell ⟨k, 2, none⟩ z').cell? ⟨k, 0, none⟩ = some x' ∧ (((w.setCell ⟨k, 0, none⟩ x').setCell ⟨k, 1, none⟩ y').setCell ⟨k, 2, none⟩ z').cell? ⟨k, 1, none⟩ = some y' ∧ (((w.setCell ⟨k, 0, none⟩ x').setCell ⟨k, 1, none⟩ y').setCell ⟨k, 2, none⟩ z').cell? ⟨k, 2, none⟩ = some z' := by
  have h1 : ErrCell (w.setCell ⟨k, 0, none⟩ x') k x' y z := ⟨by rw [heap_setCell_same w k 0 _ _ x' h.blk]; rfl⟩
  have h2 : ErrCell ((w.setCell ⟨k, 0, none⟩ x').setCell ⟨k, 1, none⟩ y') k x' y' z := ⟨by rw [heap_setCell_same _ k 1 _ _ y' h1.blk]; rfl⟩
  have h3 : ErrCell (((w.setCell ⟨k, 0, none⟩ x').setCell ⟨k, 1, none⟩ y').setCell ⟨k, 2, none⟩ z') k x' y' z' := ⟨by rw [heap_setCell_same _ k 2 _ _ z' h2.blk]; rfl⟩
  exact ⟨h.c0, h.fz 0, h1.c1, h1.fz 1, h2.c2, h2.fz 2, h3.c0, h3.c1, h3.c2⟩

theorem rawNew_form (w : World) (op : ByteArray) (at_ n : Int) :
    Calls Tryd.prog 15 #[.string op, .int .i64 at_, .int .i64 n] w fun e w' => ∃ Aa ca Ab cb, e = .returned (.agg #[.int .i64 n, .slice Aa 1 ca, .slice Ab 1 cb]) ∧ ErrVal w' w.heap.size (.agg #[.int .i64 n, .slice Aa 1 ca, .slice Ab 1 cb]) n [(op, at_)] ∧ Below w.heap.size w w' := by
  refine (rawNew_calls w op at_ n).mono ?_
  rintro e w' ⟨v, rfl, ⟨ga, gb, rfl, hga, hgb⟩, hb⟩
  obtain ⟨Aa, ca, rfl, _, _⟩ := own_slice hga
  obtain ⟨Ab, cb, rfl, _, _⟩ := own_slice hgb
  exact ⟨Aa, ca, Ab, cb, rfl, ⟨_, _, rfl, hga, hgb⟩, hb⟩
theorem err_end {w : World} {base k : Nat} {v x y z x' y' z' : Value} {n : Int} {l : List (ByteArray × Int)} (hc : ErrCell w k x y z) (h : ErrVal w base v n l) : ErrVal (setErr w k x' y' z') 0 v n l := by
  obtain ⟨a, b, rfl, h1, h2⟩ := h
  exact ErrVal.same ⟨a, b, rfl, own_base h1 (Nat.zero_le _), own_base h2 (Nat.zero_le _)⟩ hc.blk setErr_same

theorem ErrVal.form {w : World} {base : Nat} {v : Value} {n : Int} {l : List (ByteArray × Int)} (h : ErrVal w base v n l) : ∃ Aa la ca Ab lb cb, v = .agg #[.int .i64 n, .slice Aa la ca, .slice Ab lb cb] := by
  obtain ⟨a, b, rfl, h1, h2⟩ := h
  obtain ⟨Aa, ca, rfl, _, _⟩ := own_slice h1
  obtain ⟨Ab, cb, rfl, _, _⟩ := own_slice h2
  exact ⟨_, _, _, _, _, _, rfl⟩

theorem errBad_calls (w : World) (N : Int) (a b : Value) :
    Calls Tryd.prog 69 #[.agg #[.int .i64 N, a, b]] w fun e w' => e = .returned (.bool (N != 0)) ∧ Below w.heap.size w w' := by
  go_enter Tryd.func69, Tryd.ntmps69
  go_wp2
  go_ret
  exact ⟨rfl, below_new _ _⟩
end Go.Proofs.YtapebbejdgeijaaDoor
