/- Sorted numbers: sort.Ints at a row of one's own. -/
import Derived.Test.YtapebbejdgeijaaDoorBase
import Derived.Test.YtapebbejdgeijaaDoorShSort
import Derived.Sort.OwnSortedInts
namespace Go.Proofs.YtapebbejdgeijaaDoor
open Go.RowKit Go.Extern.Stop Go.Stop Go.Extern Go.Deep

def sortI (zs : List Int) : List Int := zs.mergeSort fun x y => decide (x ≤ y)
theorem sortI_length (zs : List Int) : (sortI zs).length = zs.length := List.length_mergeSort zs
theorem mem_sortI {zs : List Int} {z : Int} : z ∈ sortI zs ↔ z ∈ zs := List.mem_mergeSort
theorem sortI_sorted (zs : List Int) : (sortI zs).Pairwise (· ≤ ·) := by
  have := List.pairwise_mergeSort (le := fun x y : Int => decide (x ≤ y)) (fun a b c h1 h2 => by simp at *; omega) (fun a b => by simp; omega) zs
  exact this.imp (fun h => by simpa using h)

theorem sortInts_calls (w : World) (base n : Nat) (v : Value) (zs : List Int) (ho : w.ownsRow base 3 1 v n (zs.map (Value.int .i64))) (hn : n < 4611686018427387904) :
    Calls Tryd.prog 117 #[v] w fun e w' => e = .returned (.tuple #[]) ∧ w'.ownsRow base 3 1 v n ((sortI zs).map (Value.int .i64)) ∧ Below base w w' ∧ w.grownBy w' v.ownBlock := by
  have hl : zs.length = n := by have := ho.1; simpa using this
  rcases ho.2 with ⟨rfl, h0⟩ | ⟨g, cap, cur, rfl, hb, hh, h1, h2, h3, h4⟩
  · subst h0
    refine (Tryd.sort_Ints_none none 0 w).mono ?_
    rintro e w' ⟨rfl, rfl⟩
    obtain rfl : zs = [] := List.eq_nil_of_length_eq_zero hl
    refine ⟨rfl, ?_, Below.refl _ _, rfl, rfl, rfl, Nat.le_refl _, fun _ _ _ => rfl⟩
    rw [show sortI [] = [] from List.mergeSort_nil]
    exact ho
  · subst hl
    have hg : g < w.heap.size := (Array.getElem?_eq_some_iff.1 hh).1
    refine (Tryd.sort_Ints g 0 cap zs w (holds_of_blockI hh (by simpa using h4)) hg hn).mono ?_
    rintro e w' ⟨rfl, m, os, rfl⟩
    have hgr := grownBy_sortedI (w := w) (g := g) (n := m) (os := os) (sortI zs).toArray
    refine ⟨rfl, ownsRow_sortedI (sortI_length zs) hb hh h1 h2 h3, (Below.refl base w).grown hgr (Nat.le_trans hb (Nat.le_of_lt hg)) (fun k hk => by obtain rfl := Option.some.inj hk; exact hb), hgr⟩

end Go.Proofs.YtapebbejdgeijaaDoor
