/- package forms: Shift of 2 and 4; Mirror. -/
import Derived.Test.YtapebbejdgeijaaDoorFormF
namespace Go.Proofs.YtapebbejdgeijaaDoor
open Go.RowKit Go.Extern.Stop Go.Stop Go.Extern Go.Deep

set_option maxRecDepth 100000 in
theorem shift24_calls (B : Nat) (S : Nat → Addr) (w : World) (hE : Env B S w) :
    Calls Tryd.prog 60 #[.int .i64 2, .int .i64 4] w fun e w' => ∃ v, e = .returned (.tuple #[zeroRule, v]) ∧ Chain S w' v (rootIx 3) [(opForms, 0)] ∧ Below w.heap.size w w' := by
  obtain ⟨w1, hw1⟩ : ∃ w1, w1 = w.alloc (.cells #[.int .i64 4] 3) := ⟨_, rfl⟩
  obtain ⟨w2, hw2⟩ : ∃ w2, w2 = w1.alloc (.cells #[.int .i64 0, .int .i64 0, .slice none 0 0] 57) := ⟨_, rfl⟩
  obtain ⟨w3, hw3⟩ : ∃ w3, w3 = w2.alloc (.cells #[.int .i64 4] 3) := ⟨_, rfl⟩
  have s1 : w1.heap.size = w.heap.size + 1 := by rw [hw1, World.size_alloc]
  have s2 : w2.heap.size = w.heap.size + 1 + 1 := by rw [hw2, World.size_alloc, s1]
  have b1 : Below w.heap.size w w1 := by rw [hw1]; exact below_new w _
  have b2 : Below w1.heap.size w1 w2 := by rw [hw2]; exact below_new w1 _
  have b3 : Below w2.heap.size w2 w3 := by rw [hw3]; exact below_new w2 _
  have b12 := below_then b1 b2 b1.size
  have b13 := below_then b12 b3 b12.size
  have k1 : w1.cell? ⟨w.heap.size, 0, none⟩ = some (.int .i64 4) := by rw [hw1]; exact cell_one w _ _
  have k2 : w2.cell? ⟨w.heap.size, 0, none⟩ = some (.int .i64 4) := (b2.cell (show w.heap.size < _ by omega)).trans k1
  have c2 : Cell3 w2 (w.heap.size + 1) 57 (.int .i64 0) (.int .i64 0) (.slice none 0 0) := by rw [hw2, ← s1]; exact heap_alloc_new w1 _
  have k3 : w3.cell? ⟨w.heap.size + 1 + 1, 0, none⟩ = some (.int .i64 4) := by rw [hw3, ← s2]; exact cell_one w2 _ _
  have C3 := hid (c2.below b3)
  have B13 := hid b13
  have HE3 := hid (((hE.below' b1).below' b2).below' b3)
  rw [hw2, hw1] at k2
  rw [hw3, hw2, hw1] at k3
  have HW : Hid (w3 = ((w.alloc (.cells #[.int .i64 4] 3)).alloc (.cells #[.int .i64 0, .int .i64 0, .slice none 0 0] 57)).alloc (.cells #[.int .i64 4] 3)) := by
    show _ = _
    rw [hw3, hw2, hw1]
  clear hw1 hw2 hw3 b1 b2 b3 b12 b13 c2 hE s1 s2 k1
  go_enter Tryd.func60, Tryd.ntmps60
  go_wp2_with fail
  rw [← show w3 = _ from HW.out]
  refine (size_err B S w3 HE3.out 2 4 (by decide)).mono ?_
  rintro e w4 ⟨v, rfl, hc, hb⟩
  obtain ⟨t, a, rfl⟩ := hc.form
  have HE4 := hid (HE3.out.below' hb)
  have C4 := hid (C3.out.below hb)
  have B4 := hid (below_then B13.out hb B13.out.size)
  clear hc hb k2 k3
  go_wp2_with fail
  refine (fWrong_calls B S w4 HE4.out 0 3 (by decide)).mono ?_
  rintro e w5 ⟨v5, rfl, hc, hb⟩
  obtain ⟨t5, a5, rfl⟩ := hc.form
  have HC := hid hc
  have C5 := hid (C4.out.below hb)
  have B5 := hid (below_then B4.out hb B4.out.size)
  obtain ⟨c0, f0, c1, f1, c2, f2, r0, r1, r2⟩ := C5.out.facts (.int .i64 0) (.int .i64 0) (.slice none 0 0)
  clear hc hb
  go_wp2_with fail
  refine bodyPost_ret (v := .tuple #[zeroRule, .iface t5 (.pointer (some a5))]) (by simp [results, Tryd.results60, go_sem, r0, r1, r2, zeroRule]) rfl ?_
  exact ⟨_, rfl, Chain.only C5.out (by decide) set3_same HC.out, set3_below B5.out (Nat.le_succ _)⟩
end Go.Proofs.YtapebbejdgeijaaDoor
