/- A round of rule.Code's loop: what is left. -/
import Derived.Test.YtapebbejdgeijaaDoorCode
namespace Go.Proofs.YtapebbejdgeijaaDoor
open Go.RowKit Go.Extern.Stop Go.Stop Go.Extern Go.Deep Go.Shelf

attribute [local go_sem] Oper.semAt_some

theorem set_block (w : World) (g j : Nat) (v : Value) (h : j ≠ g) : (w.setCell ⟨g, 0, none⟩ v).heap[j]? = w.heap[j]? := by
  show (w.heap.modify g _)[j]? = _
  rw [Array.getElem?_modify]
  simp [Ne.symm h]

theorem round_fin {n₀ g5 h0 : Nat} {W5 W w6 : World} {A A6 : Option Addr} {m c c6 : Nat} {u : Int} (ps : List (Nat × Fin 4)) (hv : nv 2 ps = u) (hn : n₀ = W5.heap.size) (hg : g5 < n₀) (hw : h0 < g5) (hB : Below g5 W5 W) (hB6 : Below W.heap.size W w6)
    (hL : Limb w6 A6 (natL u).length u) (hc : (natL u).length ≤ c6) (k1 : w6.cell? ⟨g5, 0, none⟩ = some (.slice A m c)) (f1 : w6.frozen? ⟨g5, 0, none⟩ = false) (k6 : W.cell? ⟨h0, 0, none⟩ = some (.int .i64 2)) :
    KeepsFrom n₀ W (w6.setCell ⟨g5, 0, none⟩ (.slice A6 (natL u).length c6)) ∧ KpX n₀ g5 W (w6.setCell ⟨g5, 0, none⟩ (.slice A6 (natL u).length c6)) ∧
    (∃ (A : Option Addr) (m c : Nat), (w6.setCell ⟨g5, 0, none⟩ (.slice A6 (natL u).length c6)).cell? ⟨g5, 0, none⟩ = some (.slice A m c) ∧ (w6.setCell ⟨g5, 0, none⟩ (.slice A6 (natL u).length c6)).frozen? ⟨g5, 0, none⟩ = false ∧ m = (natL (nv 2 ps)).length ∧ m ≤ c ∧ Limb (w6.setCell ⟨g5, 0, none⟩ (.slice A6 (natL u).length c6)) A m (nv 2 ps) ∧ (w6.setCell ⟨g5, 0, none⟩ (.slice A6 (natL u).length c6)).cell? ⟨h0, 0, none⟩ = some (.int .i64 2)) ∧
    Below g5 W5 (w6.setCell ⟨g5, 0, none⟩ (.slice A6 (natL u).length c6)) := by
  rw [hv]
  have hW := hB.size
  have k0 : KeepsOthers W w6 := ⟨hB6.size, fun k o hk _ => (hB6.block k (Array.getElem?_eq_some_iff.1 hk).1).trans hk⟩
  refine ⟨(k0.trans (KeepsOthers.setCell _ _ _)).from _, fun j hj hne => ?_, ⟨A6, _, c6, World.cell?_setCell_same _ _ _ k1, by rw [World.frozen?_setCell]; exact f1, rfl, hc, ?_, ?_⟩, (below_then hB hB6 (by omega)).setCell (Nat.le_refl _) _⟩
  · have e : (w6.setCell ⟨g5, 0, none⟩ (.slice A6 (natL u).length c6)).heap[j]? = w6.heap[j]? := set_block w6 g5 j _ hne
    rw [e]
    exact hB6.block j (by omega)
  · obtain ⟨q0, q1, q2 | ⟨q2, b', o', q3, q4⟩⟩ := hL
    · exact ⟨q0, q1, .inl q2⟩
    · refine ⟨q0, q1, .inr ⟨q2, b', o', q3, ?_⟩⟩
      rw [World.cell?_setCell_other]
      · exact q4
      · rintro e
        rw [← e, k1] at q4
        cases q4
  · rw [World.cell?_setCell_other (a := ⟨g5, 0, none⟩) (b := ⟨h0, 0, none⟩) (h := fun e => by simp only [Addr.mk.injEq] at e; omega)]
    exact (hB6.cell (show h0 < _ by omega)).trans k6

end Go.Proofs.YtapebbejdgeijaaDoor
