/- package forms: inner. -/
import Derived.Test.YtapebbejdgeijaaDoorFormD
namespace Go.Proofs.YtapebbejdgeijaaDoor
open Go.RowKit Go.Extern.Stop Go.Stop Go.Extern Go.Deep

theorem own_ri_row {w : World} {base : Nat} {e : TypeId} {k : IntKind} {n c : Nat} {A : Option Addr} {xs : List Int} (h : w.ownsRow base e 1 (.slice A n c) n (xs.map (Value.int k))) : RI w k A xs := by
  obtain ⟨A', c', hv, _, _, hr⟩ := own_ri h
  simp only [Value.slice.injEq] at hv
  obtain ⟨rfl, _, _⟩ := hv
  exact hr
theorem Tryd.fieldTable : ∀ (W : World) (x y z : Value), (Instr.field 57 (.agg #[x, y, z]) 2).run Tryd.prog W = .ok z W := fun _ _ _ _ => by kernel_rfl
def InnerPost (w : World) (k R : Nat) (T : List Int) (b : Bool) (e : Ending) (w' : World) : Prop :=
  ∃ A c, e = .returned (.tuple #[.agg #[.int .i64 k, .int .i64 R, .slice A T.length c], .bool b]) ∧ w'.ownsRow w.heap.size 3 1 (.slice A T.length c) T.length (T.map (Value.int .i64)) ∧ Below w.heap.size w w'

theorem equalI_at (w : World) (A A' : Option Addr) (m m' c c' : Nat) (xs ys : List Int) (hm : m = xs.length) (hm' : m' = ys.length) (hx : RI w .i64 A xs) (hy : RI w .i64 A' ys) :
    Calls Tryd.prog 64 #[.slice A m c, .slice A' m' c'] w fun e w' => e = .returned (.bool (decide (xs = ys))) ∧ ∃ n, w' = w.drewN n := by
  subst hm hm'
  exact equalI_calls w A A' c c' xs ys hx hy

set_option maxRecDepth 100000 in
theorem inner_zero (w : World) (k : Nat) (A : Option Addr) (m c : Nat) :
    Calls Tryd.prog 63 #[.agg #[.int .i64 k, .int .i64 0, .slice A m c]] w fun e w' => e = .returned (.tuple #[.agg #[.int .i64 k, .int .i64 0, .slice A m c], .bool false]) ∧ Below w.heap.size w w' := by
  obtain ⟨k0, k1, k2⟩ := cells3 ((show Cell3 _ _ _ _ _ _ from heap_alloc_new w (.cells #[.int .i64 k, .int .i64 0, .slice A m c] 57)).below (below_new _ (.cells #[.int .i64 0, .int .i64 0, .slice none 0 0] 57)))
  have HB := hid (below_then (below_new w (.cells #[.int .i64 k, .int .i64 0, .slice A m c] 57)) (below_new _ (.cells #[.int .i64 k, .int .i64 0, .slice A m c] 57)) (by simp))
  go_enter Tryd.func63, Tryd.ntmps63
  go_wp2_with fail
  refine bodyPost_ret (v := .tuple #[.agg #[.int .i64 k, .int .i64 0, .slice A m c], .bool false]) (by simp [results, Tryd.results63, go_sem]) rfl ?_
  exact ⟨rfl, HB.out⟩

set_option maxRecDepth 100000 in
theorem inner_calls (w : World) (k R : Nat) (hk1 : 1 ≤ k) (hk4 : k ≤ 4) (hR : R + 1 ≤ 3) (A : Option Addr) (m c : Nat) (T : List Int) (hm : m = T.length) (hT : T.length = sz k (R + 1)) (hr : RI w .i64 A T) :
    Calls Tryd.prog 63 #[.agg #[.int .i64 k, .int .i64 (R + 1 : Nat), .slice A m c]] w (InnerPost w k R (innerT k R T) (decide (widenT k R (R + 1) (innerT k R T) = T))) := by
  obtain ⟨R1, hR1⟩ : ∃ R1, R1 = R + 1 := ⟨_, rfl⟩
  have er : (R1 : Int) - 1 = (R : Int) := by omega
  rw [← hR1]
  obtain ⟨w1, hw1⟩ : ∃ w1, w1 = w.alloc (.cells #[.int .i64 k, .int .i64 R1, .slice A m c] 57) := ⟨_, rfl⟩
  obtain ⟨w2, hw2⟩ : ∃ w2, w2 = w1.alloc (.cells #[.int .i64 0, .int .i64 0, .slice none 0 0] 57) := ⟨_, rfl⟩
  have s1 : w1.heap.size = w.heap.size + 1 := by rw [hw1, World.size_alloc]
  have b1 : Below w.heap.size w w1 := by rw [hw1]; exact below_new w _
  have b2 : Below w1.heap.size w1 w2 := by rw [hw2]; exact below_new w1 _
  have b12 := below_then b1 b2 b1.size
  have c1 : Cell3 w1 w.heap.size 57 (.int .i64 k) (.int .i64 R1) (.slice A m c) := by rw [hw1]; exact heap_alloc_new w _
  have c2 : Cell3 w2 (w.heap.size + 1) 57 (.int .i64 0) (.int .i64 0) (.slice none 0 0) := by rw [hw2, ← s1]; exact heap_alloc_new w1 _
  have c12 := c1.below b2
  have r2 : RI w2 .i64 A T := hr.below b12 (Nat.le_refl _)
  have HF : Hid (∀ (W : World) (g i : Nat), Below w2.heap.size w2 W → i < sz k R → RI W .i64 (some ⟨g, 0, none⟩) (ints (digs k (2 * R + 1) i)) → Calls Tryd.prog 106 (#[.slice (some ⟨g, 0, none⟩) (2 * R + 1) (2 * R + 1)] ++ #[.pointer (some ⟨w.heap.size, 0, none⟩)]) W fun e W' => e = .returned (.int .i64 (T.getD (i * k) 0)) ∧ Below W.heap.size W W') := fun W g i hB hi hg =>
    innerC_calls W k R hk1 hk4 hR A m c T hm hT (r2.below hB (Nat.le_refl _)) w.heap.size (hR1 ▸ c12.below hB) g i hi hg
  obtain ⟨k0, k1, k2⟩ := cells3 c12
  have B12 := hid b12
  have C12 := hid c12
  have C22 := hid c2
  have HR2 := hid r2
  have HM := hid hm
  have HR1 := hid hR1
  have HT := hid hT
  rw [hw2, hw1] at k0 k1 k2
  have HW : Hid (w2 = (w.alloc (.cells #[.int .i64 k, .int .i64 R1, .slice A m c] 57)).alloc (.cells #[.int .i64 0, .int .i64 0, .slice none 0 0] 57)) := by
    show _ = _
    rw [hw2, hw1]
  have hr1 : 1 ≤ R1 := by omega
  have hr3 : R1 ≤ 3 := by omega
  have hrr : R ≤ R1 := by omega
  clear hw1 hw2 b1 b2 b12 c1 c2 c12 r2 hr hm hT s1 hR1
  go_enter Tryd.func63, Tryd.ntmps63
  go_wp2_with fail
  rw [← show w2 = _ from HW.out]
  refine (made_calls w2 k R hk1 hk4 (by omega) 106 #[.pointer (some ⟨w.heap.size, 0, none⟩)] _ Tryd.entersInnerC HF.out).mono ?_
  rintro e w4 ⟨A4, c4, rfl, ho, hb⟩
  rw [show ((List.range (sz k R)).map fun i => T.getD (i * k) 0) = innerT k R T from rfl] at ho ⊢
  have HO := hid ho
  have HB4 := hid (below_then B12.out hb B12.out.size)
  have C14 := hid (C12.out.below hb)
  have C24 := hid (C22.out.below hb)
  have HR4 := hid (HR2.out.below hb (Nat.le_refl _))
  have hz4 : w.heap.size + 1 < w4.heap.size := C24.out.lt
  clear ho hb k0 k1 k2
  generalize hT4 : innerT k R T = T4 at *
  have HT4 := hid hT4
  obtain ⟨m4, hm4⟩ : ∃ m4, m4 = T4.length := ⟨_, rfl⟩
  rw [← hm4]
  have HM4 := hid hm4
  have HO4 : Hid (w4.ownsRow w2.heap.size 3 1 (.slice A4 m4 c4) m4 (T4.map (Value.int .i64))) := by rw [hm4]; exact HO.out
  have HZ4 : Hid (T4.length = sz k R) := by rw [← hT4]; exact innerT_length _ _ _
  clear hm4 hT4
  have B5 := hid (below_new w4 (.cells #[.int .i64 k, .int .i64 R, .slice A4 m4 c4] 57))
  obtain ⟨g4, hg4⟩ : ∃ g4, g4 = w4.heap.size := ⟨_, rfl⟩
  have C5 : Hid (Cell3 (w4.alloc (.cells #[.int .i64 k, .int .i64 R, .slice A4 m4 c4] 57)) g4 57 (.int .i64 k) (.int .i64 R) (.slice A4 m4 c4)) := by rw [hg4]; exact heap_alloc_new w4 _
  obtain ⟨j0, j1, j2⟩ := cells3 C5.out
  obtain ⟨k0, k1, k2⟩ := cells3 (C14.out.below B5.out)
  go_wp2_with fail
  rw [← hg4]
  have HRI5 := hid ((own_ri_row HO4.out).below B5.out (Nat.le_refl _))
  have C25 := hid (C24.out.below B5.out)
  have HR5 := hid (HR4.out.below B5.out (Nat.le_refl _))
  have HB5 := hid (below_then HB4.out B5.out HB4.out.size)
  have HO5 := hid (own_below HO4.out B5.out (Nat.le_refl _))
  have hgb : ¬ g4 = w.heap.size + 1 := by omega
  have hgb' : ¬ w.heap.size + 1 = g4 := by omega
  have S2 : Hid (w.heap.size ≤ w2.heap.size) := B12.out.size
  clear hg4 hz4 B5
  generalize w4.alloc (.cells #[.int .i64 k, .int .i64 R, .slice A4 m4 c4] 57) = w5 at *
  have W1 : Hid (∀ W, Below w5.heap.size w5 W → Calls Tryd.prog 62 #[.agg #[.int .i64 k, .int .i64 R, .slice A4 m4 c4], .int .i64 R1] W (RuleNew W k R1 (widenT k R R1 T4))) := fun W hW =>
    widened_calls W k R R1 hk1 hk4 hrr hr3 A4 m4 c4 T4 HM4.out HZ4.out (HRI5.out.below hW (Nat.le_refl _))
  generalize widenT k R R1 T4 = T6 at *
  have hfld := Tryd.fieldTable
  go_region_held3 (fun w' => w'.cell? ⟨g4, 0, none⟩ = some (.int .i64 k) ∧ w'.cell? ⟨g4, 1, none⟩ = some (.int .i64 R) ∧ w'.cell? ⟨g4, 2, none⟩ = some (.slice A4 m4 c4) ∧ w'.cell? ⟨w.heap.size, 1, none⟩ = some (.int .i64 R1) ∧ w'.cell? ⟨w.heap.size, 2, none⟩ = some (.slice A m c)) (first | go_keep | (refine ⟨?_, ?_, ?_, ?_, ?_⟩ <;> assumption))
    (first
      | (go_at_call 62; refine (W1.out _ (below_drawn (Below.refl _ _) 1)).mono ?_; rintro e w6 ⟨A6, c6, rfl, ho6, hb6'⟩; have hb6 : Below w5.heap.size w5 w6 := ⟨hb6'.os, hb6'.tape, hb6'.output, hb6'.size, hb6'.block⟩; obtain ⟨m6, hm6⟩ : ∃ m6, m6 = T6.length := ⟨_, rfl⟩; rw [← hm6]; have HM6 := hid hm6; have HRI6 := hid (own_ri_row (by rw [← hm6] at ho6; exact ho6)); have HB6 := hid hb6; have d0 := (hb6.cell (show g4 < _ from World.block_lt_of_cell? _ _ j0)).trans j0; have d1 := (hb6.cell (show g4 < _ from World.block_lt_of_cell? _ _ j1)).trans j1; have d2 := (hb6.cell (show g4 < _ from World.block_lt_of_cell? _ _ j2)).trans j2; have d3 := (hb6.cell (show w.heap.size < _ from World.block_lt_of_cell? _ _ k1)).trans k1; have d4 := (hb6.cell (show w.heap.size < _ from World.block_lt_of_cell? _ _ k2)).trans k2; clear hb6 hb6' hm6 ho6)
      | (go_at_call 64; refine (equalI_at _ A6 A m6 m c6 c T6 T HM6.out HM.out HRI6.out (HR5.out.below HB6.out (Nat.le_refl _))).mono ?_; rintro e w7 ⟨rfl, nd, rfl⟩; have HB7 := hid (below_drawn HB6.out nd); have C27 := hid (C25.out.below HB7.out); generalize w6.drewN nd = w7 at *; have d0 := (HB7.out.cell (show g4 < _ from World.block_lt_of_cell? _ _ j0)).trans j0; have d1 := (HB7.out.cell (show g4 < _ from World.block_lt_of_cell? _ _ j1)).trans j1; have d2 := (HB7.out.cell (show g4 < _ from World.block_lt_of_cell? _ _ j2)).trans j2; have d3 := (HB7.out.cell (show w.heap.size < _ from World.block_lt_of_cell? _ _ k1)).trans k1; have d4 := (HB7.out.cell (show w.heap.size < _ from World.block_lt_of_cell? _ _ k2)).trans k2; obtain ⟨c0, f0, c1, f1, c2, f2, r0, r1, r2⟩ := C27.out.facts (.int .i64 k) (.int .i64 R) (.slice A4 m4 c4)))
  go_wp2_with fail
  refine bodyPost_ret (v := .tuple #[.agg #[.int .i64 k, .int .i64 R, .slice A4 m4 c4], .bool (decide (T6 = T))]) (by simp [results, Tryd.results63, go_sem, r0, r1, r2]) rfl ?_
  have hO7 := own_below HO5.out HB7.out (Nat.le_refl _)
  rw [show m4 = T4.length from HM4.out] at hO7 ⊢
  obtain ⟨h1, h2⟩ := rule_fin (x' := .int .i64 k) (y' := .int .i64 R) (z' := .slice A4 T4.length c4) hO7 C27.out (below_then HB5.out HB7.out HB5.out.size) (Nat.le_succ _) S2.out
  exact ⟨A4, c4, rfl, h1, h2⟩
end Go.Proofs.YtapebbejdgeijaaDoor
