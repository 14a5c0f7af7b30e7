/- rule.Parse of 2.1.110. -/
import Derived.Test.YtapebbejdgeijaaDoorRuleF
import Derived.Test.YtapebbejdgeijaaDoorNatC
namespace Go.Proofs.YtapebbejdgeijaaDoor
open Go.RowKit Go.Extern.Stop Go.Stop Go.Extern Go.Deep

set_option maxRecDepth 100000 in
set_option maxHeartbeats 1000000 in
theorem ruParse_calls (w : World) :
    Calls Tryd.prog 57 #[.string s110] w fun e w' => ∃ A c, e = .returned (.tuple #[.agg #[.int .i64 2, .int .i64 1, .slice A 8 c], .nilIface]) ∧ RI w' .i64 A (codeT 2 8 110) ∧ Below w.heap.size w w' := by
  obtain ⟨w1, hw1⟩ : ∃ w1, w1 = w.alloc (.cells #[.int .i64 0, .int .i64 0, .slice none 0 0] 57) := ⟨_, rfl⟩
  have HW1 := hid hw1
  have HB1 : Hid (Below w.heap.size w w1) := by show Below _ _ _; rw [hw1]; exact below_new w _
  have C1 : Hid (Cell3 w1 w.heap.size 57 (.int .i64 0) (.int .i64 0) (.slice none 0 0)) := by show Cell3 _ _ _ _ _ _; rw [hw1]; exact heap_alloc_new w _
  clear hw1
  have z0 : ((((⟨#[50, 46, 49, 46, 49, 49, 48]⟩ : ByteArray)[0]'(by decide)).toNat : Nat) : Int) = 50 := by rfl
  have z2 : ((((⟨#[50, 46, 49, 46, 49, 49, 48]⟩ : ByteArray)[2]'(by decide)).toNat : Nat) : Int) = 49 := by rfl
  have HHD := hid (head_calls w1)
  unfold s110 at HHD ⊢
  go_enter Tryd.func57, Tryd.ntmps57
  go_wp2_with fail
  rw [← show w1 = _ from HW1.out]
  refine HHD.out.mono ?_
  rintro e w2 ⟨rfl, hb2⟩
  have HB2 := hid (below_then HB1.out hb2 HB1.out.size)
  have C2 := hid (C1.out.below hb2)
  clear hb2
  go_wp2_with fail
  go_quiet (fail)
  go_wp2_with fail
  refine (show Calls Tryd.prog 93 #[.int .i64 2, .int .i64 1] (w2.drewN nq) fun e w' => e = .returned (.tuple #[.int .i64 8, .nilIface]) ∧ w' = w2.drewN nq from size_calls (w2.drewN nq) 2 1 (by decide) (by decide) (by decide)).mono ?_
  rintro e w3 ⟨rfl, rfl⟩
  have HB3 := hid (below_drawn HB2.out nq)
  have C3 := hid (C2.out.below (below_drawn (Below.refl _ _) nq))
  generalize w2.drewN nq = w3 at *
  clear z0 z2
  go_wp2_with fail
  refine (show Calls Tryd.prog 94 _ w3 _ from parse110_calls w3).mono ?_
  rintro e w4 ⟨A4, c4, rfl, hl4, hb4⟩
  have HL4 := hid (show Limb w4 A4 1 ((110 : Nat) : Int) from hl4)
  have HB4 := hid (below_then HB3.out hb4 HB3.out.size)
  have C4 := hid (C3.out.below hb4)
  clear hl4 hb4
  go_wp2_with fail
  refine (show Calls Tryd.prog 96 #[.int .i64 2, .int .i64 1, .slice A4 1 c4] w4 fun e w' => ∃ g c', e = .returned (.tuple #[.agg #[.int .i64 2, .int .i64 1, .slice (some ⟨g, 0, none⟩) 8 c'], .nilIface]) ∧ w4.heap.size ≤ g ∧ IntBlk w' g (codeT 2 8 110) ∧ Below w4.heap.size w4 w' from from_calls w4 2 1 (by decide) (by decide) (by decide) (by decide) A4 1 c4 110 HL4.out rfl (by decide)).mono ?_
  rintro e w5 ⟨g5, c5, rfl, hg5, hr5, hb5⟩
  have hne5 : g5 ≠ w.heap.size := by have := C4.out.lt; omega
  have HB5 := hid (below_then HB4.out hb5 HB4.out.size)
  have C5 := hid (C4.out.below hb5)
  have HR5 := hid hr5
  clear hr5 hb5
  have BN := hid (below_new w5 (.cells #[.int .i64 2, .int .i64 1, .slice (some ⟨g5, 0, none⟩) 8 c5] 57))
  have CN : Hid (Cell3 (w5.alloc (.cells #[.int .i64 2, .int .i64 1, .slice (some ⟨g5, 0, none⟩) 8 c5] 57)) w5.heap.size 57 (.int .i64 2) (.int .i64 1) (.slice (some ⟨g5, 0, none⟩) 8 c5)) := heap_alloc_new w5 _
  have C6 := hid (C5.out.below BN.out)
  have HR6 := hid (HR5.out.of_heap (BN.out.block _ HR5.out.lt))
  have HB6 := hid (below_then HB5.out BN.out HB5.out.size)
  obtain ⟨k0, k1, k2⟩ := cells3 CN.out
  obtain ⟨c0, f0, c1, f1, c2, f2, r0, r1, r2⟩ := C6.out.facts (.int .i64 2) (.int .i64 1) (.slice (some ⟨g5, 0, none⟩) 8 c5)
  go_wp2_with fail
  refine bodyPost_ret (v := .tuple #[.agg #[.int .i64 2, .int .i64 1, .slice (some ⟨g5, 0, none⟩) 8 c5], .nilIface]) (by simp [results, Tryd.results57, go_sem, r0, r1, r2]) rfl ?_
  exact ⟨_, c5, rfl, (HR6.out.of_heap (set3_same _ hne5)).ri (by simp [codeT]), set3_below HB6.out (Nat.le_refl _)⟩
end Go.Proofs.YtapebbejdgeijaaDoor
