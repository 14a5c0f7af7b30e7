/- What the laws of the forms ask first: answered. -/
import Derived.Test.YtapebbejdgeijaaDoorRuleT
import Derived.Test.YtapebbejdgeijaaDoorRuleG
import Derived.Test.YtapebbejdgeijaaDoorForm2
import Derived.Test.YtapebbejdgeijaaDoorForm3
namespace Go.Proofs.YtapebbejdgeijaaDoor
open Go.RowKit Go.Extern.Stop Go.Stop Go.Extern Go.Deep

abbrev z110 : List (Fin 4) := [0, 0, 1, 1, 1, 1, 1, 0]
theorem mirror110 : mirrorT 2 1 (codeT 2 8 110) = z110.map fun x : Fin 4 => ((x.val : Nat) : Int) := by decide
theorem nv110 : nv 2 (backTo 0 z110 8) = 124 := by decide
theorem len110 : (mirrorT 2 1 (codeT 2 8 110)).length = 8 := by decide

set_option maxRecDepth 100000 in
set_option maxHeartbeats 2000000 in
theorem awake05_calls (B : Nat) (S : Nat → Addr) (w : World) (hE : Env B S w) :
    Calls Tryd.prog 21 #[] w fun e w' => e = .returned (.bool true) ∧ Below w.heap.size w w' := by
  have HE := hid hE
  clear hE
  go_enter Tryd.func21, Tryd.ntmps21
  go_wp2_with fail
  refine (ruParse_calls w).mono ?_
  rintro e w2 ⟨A, c, rfl, hr2, hb2⟩
  obtain ⟨w3, hw3⟩ : ∃ w3, w3 = w2.alloc (.cells #[.int .i64 2, .int .i64 1, .slice A 8 c] 57) := ⟨_, rfl⟩
  have b23 : Below w2.heap.size w2 w3 := by rw [hw3]; exact below_new w2 _
  have c3 : Cell3 w3 w2.heap.size 57 (.int .i64 2) (.int .i64 1) (.slice A 8 c) := by rw [hw3]; exact heap_alloc_new w2 _
  have HR3 := hid (hr2.below b23 (Nat.le_refl _))
  have HB3 := hid (below_two hb2 b23)
  have HE3 := hid ((HE.out.below' hb2).below' b23)
  have HW3 : Hid (w3 = w2.alloc (.cells #[.int .i64 2, .int .i64 1, .slice A 8 c] 57)) := hw3
  obtain ⟨k0, k1, k2⟩ := cells3 c3
  rw [hw3] at k0 k1 k2
  clear hw3 b23 c3 hr2 hb2
  go_wp2_with fail
  rw [← show w3 = _ from HW3.out]
  refine (mirror1_calls B S w3 HE3.out 2 (by decide) (by decide) A 8 c (codeT 2 8 110) rfl rfl (by decide) HR3.out).mono ?_
  rintro e w4 ⟨A', c', rfl, hr4, hb4⟩
  rw [len110]
  have hr4' := hr4
  obtain ⟨b, off, rfl, _⟩ := hr4'.2 (by rw [len110]; decide)
  obtain ⟨w5, hw5⟩ : ∃ w5, w5 = w4.alloc (.cells #[.int .i64 2, .int .i64 1, .slice (some ⟨b, off, none⟩) 8 c'] 57) := ⟨_, rfl⟩
  have b45 : Below w4.heap.size w4 w5 := by rw [hw5]; exact below_new w4 _
  have c5 : Cell3 w5 w4.heap.size 57 (.int .i64 2) (.int .i64 1) (.slice (some ⟨b, off, none⟩) 8 c') := by rw [hw5]; exact heap_alloc_new w4 _
  have HR5 := hid (hr4.below b45 (Nat.le_refl _))
  have HB5 := hid (below_two (below_two HB3.out hb4) b45)
  have HE5 := hid ((HE3.out.below' hb4).below' b45)
  have HW5 := hid hw5
  obtain ⟨j0, j1, j2⟩ := cells3 c5
  rw [hw5] at j0 j1 j2
  clear hw5 b45 c5 hr4 hb4 hr4' k0 k1 k2
  go_wp2_with fail
  rw [← show w5 = _ from HW5.out]
  refine (text2_calls B S w5 HE5.out b off c' z110 _ mirror110 rfl (by decide) HR5.out nv110).mono ?_
  rintro e w6 ⟨rfl, hb6⟩
  have HB6 := hid (below_two HB5.out hb6)
  have HE6 := hid (HE5.out.below' hb6)
  clear hb6 j0 j1 j2
  go_wp2_with fail
  refine (shift24_calls B S w6 HE6.out).mono ?_
  rintro e w7 ⟨v, rfl, hc, hb7⟩
  obtain ⟨t, a, rfl⟩ := hc.form
  have HB7 := hid (below_two HB6.out hb7)
  clear hc hb7
  unfold zeroRule
  go_wp2_with fail
  go_ret
  exact ⟨rfl, below_two HB7.out (below_new w7 _)⟩
end Go.Proofs.YtapebbejdgeijaaDoor
