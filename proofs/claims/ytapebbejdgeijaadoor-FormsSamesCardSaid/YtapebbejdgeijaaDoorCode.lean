/- rule.Small of a small rule; rule.Code at numbers of one limb. -/
import Derived.Test.YtapebbejdgeijaaDoorBack
import Derived.Test.YtapebbejdgeijaaDoorRuleF
import Derived.RangeFuncWrites
namespace Go.Proofs.YtapebbejdgeijaaDoor
open Go.RowKit Go.Extern.Stop Go.Stop Go.Extern Go.Deep Go.Shelf

set_option maxRecDepth 100000 in
theorem small_ok (B : Nat) (S : Nat → Addr) (w : World) (hE : Env B S w) (k r : Nat) (hk1 : 1 ≤ k) (hk4 : k ≤ 4) (hr3 : r ≤ 3) (A : Option Addr) (m c : Nat) (T : List Int) (hm : m = T.length) (hT : T.length = sz k r) (hx : ∀ x ∈ T, 0 ≤ x ∧ x < (k : Int)) (hl : m ≤ 256) (hr : RI w .i64 A T) :
    Calls Tryd.prog 123 #[.agg #[.int .i64 k, .int .i64 r, .slice A m c]] w fun e w' => e = .returned .nilIface ∧ Below w.heap.size w w' := by
  have HB := hid (below_new w (.cells #[.int .i64 k, .int .i64 r, .slice A m c] 57))
  have HR := hid (hr.below HB.out (Nat.le_refl _))
  have HE := hid (hE.below' HB.out)
  have HM := hid hm
  have HOK := hid (ruleBad_ok hk1 hk4 hr3 hT hx)
  have C1 : Hid (Cell3 (w.alloc (.cells #[.int .i64 k, .int .i64 r, .slice A m c] 57)) w.heap.size 57 (.int .i64 k) (.int .i64 r) (.slice A m c)) := heap_alloc_new w _
  obtain ⟨k0, k1, k2⟩ := cells3 C1.out
  clear hr hm hE hT hx
  go_enter Tryd.func123, Tryd.ntmps123
  go_wp2_with fail
  refine (ruCheck_calls B S _ HE.out k r A m c T HM.out HR.out).mono ?_
  rw [HOK.out]
  rintro e w1 ⟨hb, rfl⟩
  obtain ⟨k0, k1, k2⟩ := cells3 (C1.out.below hb)
  have HB1 := hid (below_then HB.out hb HB.out.size)
  clear hb
  go_wp2_with fail
  go_ret
  exact ⟨rfl, HB1.out⟩

/-! ### Code -/
def nv (k : Nat) (pre : List (Nat × Fin 4)) : Int := pre.foldl (fun n x => n * (k : Int) + (x.2.val : Int)) 0
theorem nv_snoc (k : Nat) (pre : List (Nat × Fin 4)) (x : Nat × Fin 4) : nv k (pre ++ [x]) = nv k pre * (k : Int) + (x.2.val : Int) := by simp [nv]
theorem nv_bound2 (pre : List (Nat × Fin 4)) : 0 ≤ nv 2 pre ∧ nv 2 pre + 3 ≤ 3 * 2 ^ pre.length := by
  have h : ∀ (l : List (Nat × Fin 4)) (a : Int), 0 ≤ a → 0 ≤ l.foldl (fun n x => n * ((2 : Nat) : Int) + (x.2.val : Int)) a ∧ l.foldl (fun n x => n * ((2 : Nat) : Int) + (x.2.val : Int)) a + 3 ≤ (a + 3) * 2 ^ l.length := by
    intro l
    induction l with
    | nil => intro a ha; exact ⟨ha, by simp⟩
    | cons x l ih =>
      intro a ha
      have hx := x.2.isLt
      obtain ⟨h1, h2⟩ := ih (a * ((2 : Nat) : Int) + (x.2.val : Int)) (by omega)
      refine ⟨h1, Int.le_trans h2 ?_⟩
      rw [List.length_cons, Int.pow_succ, ← Int.mul_assoc, Int.mul_right_comm]
      exact Int.mul_le_mul_of_nonneg_right (by omega) (Int.pow_nonneg (by decide))
  have := h pre 0 (by decide)
  simpa [nv] using this
end Go.Proofs.YtapebbejdgeijaaDoor
