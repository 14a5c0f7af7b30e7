/- package nat, at numbers of one limb: the whole contracts; Over, Bits. -/
import Derived.Test.YtapebbejdgeijaaDoorNatA
namespace Go.Proofs.YtapebbejdgeijaaDoor
open Go.RowKit Go.Extern.Stop Go.Stop Go.Extern Go.Deep

/-- A slice of one limb at most reads as this number. -/
def Limb (w : World) (A : Option Addr) (m : Nat) (x : Int) : Prop :=
  0 ≤ x ∧ x < 4294967296 ∧ ((m = 0 ∧ x = 0) ∨ (m = 1 ∧ ∃ b o, A = some ⟨b, o, none⟩ ∧ w.cell? ⟨b, o, none⟩ = some (.int .u32 x)))
theorem Limb.below {w w' : World} {A : Option Addr} {m : Nat} {x : Int} (h : Limb w A m x) (hb : Below w.heap.size w w') : Limb w' A m x := by
  obtain ⟨h0, h1, h2 | ⟨h2, b, o, h3, h4⟩⟩ := h
  · exact ⟨h0, h1, .inl h2⟩
  · exact ⟨h0, h1, .inr ⟨h2, b, o, h3, (hb.cell (show b < _ from World.block_lt_of_cell? w _ h4)).trans h4⟩⟩
theorem Limb.of {w : World} {A : Option Addr} {x : Int} (h0 : 0 ≤ x) (h1 : x < 4294967296) (hr : RI w .u32 A (natL x)) : Limb w A (natL x).length x := by
  by_cases hx : x = 0
  · subst hx
    exact ⟨h0, h1, .inl ⟨rfl, rfl⟩⟩
  · have e : natL x = [x] := if_neg hx
    rw [e] at hr ⊢
    obtain ⟨b, o, y, hA, hy, hc⟩ := hr.at_ (show 0 < [x].length by simp)
    obtain rfl : x = y := by simpa using hy
    exact ⟨h0, h1, .inr ⟨rfl, b, o, hA, hc⟩⟩

theorem add_calls (w : World) (A A' : Option Addr) (m m' c c' : Nat) (x y : Int) (hx : Limb w A m x) (hy : Limb w A' m' y) (h : x + y < 4294967296) : Calls Tryd.prog 119 #[.slice A m c, .slice A' m' c'] w (NatNew (x + y) w) := by
  obtain ⟨h0, h1, ⟨rfl, rfl⟩ | ⟨rfl, b, o, rfl, hc⟩⟩ := hx
  · obtain ⟨h0', h1', ⟨rfl, rfl⟩ | ⟨rfl, b', o', rfl, hc'⟩⟩ := hy
    · exact add_nil_nil w A A' c c'
    · rw [Int.zero_add]
      exact add_nil_one w b' o' A c' c y h0' h1' hc'
  · obtain ⟨h0', h1', ⟨rfl, rfl⟩ | ⟨rfl, b', o', rfl, hc'⟩⟩ := hy
    · rw [Int.add_zero]
      exact add_one_nil w b o A' c c' x h0 h1 hc
    · exact add_one_one w b o b' o' c c' x y h0 h0' h hc hc'
theorem mul_calls (w : World) (A A' : Option Addr) (m c c' : Nat) (x y : Int) (hx : Limb w A m x) (hy : Limb w A' 1 y) (h : x * y < 4294967296) : Calls Tryd.prog 120 #[.slice A m c, .slice A' 1 c'] w (NatNew (x * y) w) := by
  obtain ⟨h0', h1', ⟨e, _⟩ | ⟨_, b', o', rfl, hc'⟩⟩ := hy
  · cases e
  · obtain ⟨h0, h1, ⟨rfl, rfl⟩ | ⟨rfl, b, o, rfl, hc⟩⟩ := hx
    · rw [Int.zero_mul]
      exact mul_nil_one w A c b' o' c'
    · exact mul_one_one w b o b' o' c c' x y h0 h0' h1 h1' h hc hc'

def OverPost (x d : Int) (w : World) (e : Ending) (w' : World) : Prop :=
  ∃ A c, e = .returned (.tuple #[.slice A (natL (x / d)).length c, .int .u32 (x % d), .nilIface]) ∧ (natL (x / d)).length ≤ c ∧ RI w' .u32 A (natL (x / d)) ∧ Below w.heap.size w w'

set_option maxRecDepth 100000 in
theorem over_nil (w : World) (A : Option Addr) (c : Nat) (d : Int) (hd : 0 < d) : Calls Tryd.prog 121 #[.slice A 0 c, .int .u32 d] w (OverPost 0 d w) := by
  have hmk := Tryd.mk0
  have hd0 : (d == 0) = false := by rw [beq_eq_false_iff_ne]; omega
  go_enter Tryd.func121, Tryd.ntmps121
  go_wp2_with fail
  refine wp_loop_rounds 1 ?_
  rw [rounds_succ]
  go_wp2_with fail
  refine (norm_new (w.alloc (.cells #[] 194)) (some ⟨w.heap.size, 0, none⟩) 0 0 [] 0 rfl (Nat.le_refl _) (RI.nil _ _ _) rfl).mono ?_
  rintro e w1 ⟨c1, rfl, hc1, hr1, rfl⟩
  have HC := hid hc1
  have HR := hid hr1
  clear hc1 hr1
  go_wp2_with fail
  go_ret3
  refine ⟨some ⟨w.heap.size, 0, none⟩, c1, ?_, ?_, ?_, below_new w _⟩
  · rw [Int.zero_ediv, Int.zero_emod]; rfl
  · rw [Int.zero_ediv]; exact HC.out
  · rw [Int.zero_ediv]; exact HR.out

set_option maxRecDepth 100000 in
theorem over_one (w : World) (b o c : Nat) (x d : Int) (h0 : 0 ≤ x) (h1 : x < 4294967296) (hd : 0 < d) (hd1 : d < 4294967296) (hx : w.cell? ⟨b, o, none⟩ = some (.int .u32 x)) : Calls Tryd.prog 121 #[.slice (some ⟨b, o, none⟩) 1 c, .int .u32 d] w (OverPost x d w) := by
  have hmk := Tryd.mk1
  have hd0 : (d == 0) = false := by rw [beq_eq_false_iff_ne]; omega
  have hxl := World.block_lt_of_cell? w _ hx
  have hx2 := ((below_new w (.cells #[.int .u32 0] 194)).cell (show b < w.heap.size from hxl)).trans hx
  go_enter Tryd.func121, Tryd.ntmps121
  go_wp2_with fail
  refine wp_loop_rounds 2 ?_
  rw [rounds_succ]
  go_wp2_with fail
  refine (div32_calls _ x d h0 h1 hd hd1).mono ?_
  rintro e w2 ⟨rfl, nd, rfl⟩
  go_wp2_with fail
  rw [rounds_succ]
  have q1 : 0 ≤ x / d := Int.ediv_nonneg h0 (Int.le_of_lt hd)
  have HH : Hid ((((w.alloc (.cells #[.int .u32 0] 194)).drewN nd).setCell ⟨w.heap.size, 0, none⟩ (.int .u32 (x / d))).heap[w.heap.size]? = some (.cells ([x / d].map (Value.int .u32)).toArray 194 (0, 0))) := by
    show _ = _
    rw [heap_setCell_same ((w.alloc (.cells #[.int .u32 0] 194)).drewN nd) w.heap.size 0 #[.int .u32 0] 194 (.int .u32 (x / d)) (heap_alloc_new w _)]
    rfl
  have HB : Hid (Below w.heap.size w (((w.alloc (.cells #[.int .u32 0] 194)).drewN nd).setCell ⟨w.heap.size, 0, none⟩ (.int .u32 (x / d)))) := Below.setCell (below_drawn (below_new w _) nd) (Nat.le_refl _) _
  go_wp2_with fail
  refine (norm_new _ (some ⟨w.heap.size, 0, none⟩) 1 1 [x / d] (x / d) rfl (Nat.le_refl _) (ri_block HH.out (by simp)) (strip_one _)).mono ?_
  rintro e w1 ⟨c1, rfl, hc1, hr1, rfl⟩
  have HC := hid hc1
  have HR := hid hr1
  clear hc1 hr1
  go_wp2_with fail
  go_ret3
  exact ⟨some ⟨w.heap.size, 0, none⟩, c1, rfl, HC.out, HR.out, HB.out⟩

theorem over_calls (w : World) (A : Option Addr) (m c : Nat) (x d : Int) (hx : Limb w A m x) (hd : 0 < d) (hd1 : d < 4294967296) : Calls Tryd.prog 121 #[.slice A m c, .int .u32 d] w (OverPost x d w) := by
  obtain ⟨h0, h1, ⟨rfl, rfl⟩ | ⟨rfl, b, o, rfl, hc⟩⟩ := hx
  · exact over_nil w A c d hd
  · exact over_one w b o c x d h0 h1 hd hd1 hc

set_option maxRecDepth 100000 in
theorem bits_zero (w : World) (A : Option Addr) (c : Nat) : Calls Tryd.prog 122 #[.slice A 0 c] w fun e w' => e = .returned (.int .i64 0) ∧ w' = w := by
  go_enter Tryd.func122, Tryd.ntmps122
  go_wp2_with fail
  refine (norm_new w A 0 c [] 0 rfl (Nat.zero_le _) (RI.nil _ _ _) rfl).mono ?_
  rintro e w1 ⟨c1, rfl, -, -, rfl⟩
  rw [show (natL 0).length = 0 from rfl]
  go_wp2_with fail
  go_ret
  exact ⟨rfl, rfl⟩
end Go.Proofs.YtapebbejdgeijaaDoor
