/- rule.Text of a rule of two symbols and radius 1 whose code is 124. -/
import Derived.Test.YtapebbejdgeijaaDoorCode2
import Derived.Test.YtapebbejdgeijaaDoorNatD
namespace Go.Proofs.YtapebbejdgeijaaDoor
open Go.RowKit Go.Extern.Stop Go.Stop Go.Extern Go.Deep Go.Shelf

theorem cv4 (W : World) (g c : Nat) (h0 : W.cell? ⟨g, 0, none⟩ = some (.int .u8 50)) (h1 : W.cell? ⟨g, 1, none⟩ = some (.int .u8 46)) (h2 : W.cell? ⟨g, 2, none⟩ = some (.int .u8 49)) (h3 : W.cell? ⟨g, 3, none⟩ = some (.int .u8 46)) :
    (convert 131 9 (.slice (some ⟨g, 0, none⟩) 4 c)).run Tryd.prog W = .ok (.string ⟨#[50, 46, 49, 46]⟩) W := by
  refine run_convert_bytes_arg W 131 5 Tryd.underlying131 Tryd.underlying5 g 0 4 c [50, 46, 49, 46] rfl (fun i hi => ?_) 9 Tryd.underlying9
  have : i = 0 ∨ i = 1 ∨ i = 2 ∨ i = 3 := by omega
  rcases this with rfl | rfl | rfl | rfl
  · exact h0
  · exact h1
  · exact h2
  · exact h3
theorem cells4 (W : World) (a b c d : Value) (t : TypeId) : (W.alloc (.cells #[a, b, c, d] t)).cell? ⟨W.heap.size, 0, none⟩ = some a ∧ (W.alloc (.cells #[a, b, c, d] t)).cell? ⟨W.heap.size, 1, none⟩ = some b ∧ (W.alloc (.cells #[a, b, c, d] t)).cell? ⟨W.heap.size, 2, none⟩ = some c ∧ (W.alloc (.cells #[a, b, c, d] t)).cell? ⟨W.heap.size, 3, none⟩ = some d := by
  refine ⟨?_, ?_, ?_, ?_⟩ <;> (simp only [World.cell?]; rw [heap_alloc_new]; rfl)
theorem cv4a (W : World) : (convert 131 9 (.slice (some ⟨W.heap.size, 0, none⟩) 4 4)).run Tryd.prog (W.alloc (.cells #[.int .u8 50, .int .u8 46, .int .u8 49, .int .u8 46] 5)) = .ok (.string ⟨#[50, 46, 49, 46]⟩) (W.alloc (.cells #[.int .u8 50, .int .u8 46, .int .u8 49, .int .u8 46] 5)) :=
  let ⟨h0, h1, h2, h3⟩ := cells4 W (.int .u8 50) (.int .u8 46) (.int .u8 49) (.int .u8 46) 5
  cv4 _ _ _ h0 h1 h2 h3

set_option maxRecDepth 100000 in
set_option maxHeartbeats 4000000 in
theorem text2_calls (B : Nat) (S : Nat → Addr) (w : World) (hE : Env B S w) (b off cap : Nat) (zs : List (Fin 4)) (T : List Int) (hT : T = zs.map fun x : Fin 4 => ((x.val : Nat) : Int)) (hl : zs.length = 8) (hz : ∀ x ∈ T, 0 ≤ x ∧ x < ((2 : Nat) : Int)) (hr : RI w .i64 (some ⟨b, off, none⟩) T) (hv : nv 2 (backTo 0 zs 8) = 124) :
    Calls Tryd.prog 59 #[.agg #[.int .i64 2, .int .i64 1, .slice (some ⟨b, off, none⟩) 8 cap]] w fun e w' => e = .returned (.tuple #[.string ⟨#[50, 46, 49, 46, 49, 50, 52]⟩, .nilIface]) ∧ Below w.heap.size w w' := by
  obtain ⟨w1, hw1⟩ : ∃ w1, w1 = w.alloc (.cells #[.int .i64 2, .int .i64 1, .slice (some ⟨b, off, none⟩) 8 cap] 57) := ⟨_, rfl⟩
  have HW1 := hid hw1
  have HB1 : Hid (Below w.heap.size w w1) := by show Below _ _ _; rw [hw1]; exact below_new w _
  have C1 : Hid (Cell3 w1 w.heap.size 57 (.int .i64 2) (.int .i64 1) (.slice (some ⟨b, off, none⟩) 8 cap)) := by show Cell3 _ _ _ _ _ _; rw [hw1]; exact heap_alloc_new w _
  have HC := hid (code2_calls B S w1 (hE.below' HB1.out) b off cap zs T hT hl hz (hr.below HB1.out (Nat.le_refl _)))
  have HS1 := hid (C1.out.lt)
  obtain ⟨k0, k1, k2⟩ := cells3 C1.out
  rw [hw1] at k0 k1 k2
  clear hw1 hE hr hz hT hl
  go_enter Tryd.func59, Tryd.ntmps59
  go_wp2_with (go_at_call 101; rw [← show w1 = _ from HW1.out]; refine HC.out.mono ?_; rintro e w2 ⟨A, c, rfl, hc, hL, hb2⟩; rw [hv, show (natL 124).length = 1 from rfl] at hc hL; rw [hv, show (natL 124).length = 1 from rfl]; have HL := hid hL; have HCC := hid hc; have HB2 := hid hb2; obtain ⟨j0, j1, j2⟩ := cells3 (C1.out.below hb2); clear hb2 hL hc k0 k1 k2)
  have e1 : IntKind.i64.wrap 50 = 50 := by decide
  have e2 : IntKind.i64.wrap 49 = 49 := by decide
  have e3 : IntKind.u8.wrap 50 = 50 := by decide
  have e4 : IntKind.u8.wrap 49 = 49 := by decide
  have hcv := fun W => cv4a W
  have hcd : ∀ W : World, (convert 131 9 (.slice (some ⟨W.heap.size, 0, none⟩) 4 4)).run Tryd.prog (W.alloc (.cells #[.int .u8 50, .int .u8 46, .int .u8 49, .int .u8 46] 5)).drew = .ok (.string ⟨#[50, 46, 49, 46]⟩) (W.alloc (.cells #[.int .u8 50, .int .u8 46, .int .u8 49, .int .u8 46] 5)).drew := fun W => cv4a W.drew
  go_region_with (first
    | (go_at_call 102; refine (natText124_calls _ _ _ (HL.out.below ?hb) HCC.out).mono ?_; (case hb => first | exact Below.refl _ _ | exact ⟨rfl, rfl, rfl, Nat.le_refl _, fun _ _ => rfl⟩ | exact ⟨rfl, rfl, rfl, (below_new w2 _).size, (below_new w2 _).block⟩); rintro e w3 ⟨rfl, hb3⟩;
        (first
          | (have HB3 : Hid (Below w2.heap.size w2 w3) := below_two (a := w2) (b := w2) (Below.refl _ _) ⟨hb3.os, hb3.tape, hb3.output, hb3.size, hb3.block⟩)
          | (have HB3 : Hid (Below w2.heap.size w2 w3) := below_two (a := w2) (below_new w2 _) ⟨hb3.os, hb3.tape, hb3.output, hb3.size, hb3.block⟩; have hcw := cv4 w3 w2.heap.size 4 ((hb3.cell (show w2.heap.size < (w2.alloc _).heap.size by simp)).trans (cells4 w2 _ _ _ _ _).1) ((hb3.cell (show w2.heap.size < (w2.alloc _).heap.size by simp)).trans (cells4 w2 _ _ _ _ _).2.1) ((hb3.cell (show w2.heap.size < (w2.alloc _).heap.size by simp)).trans (cells4 w2 _ _ _ _ _).2.2.1) ((hb3.cell (show w2.heap.size < (w2.alloc _).heap.size by simp)).trans (cells4 w2 _ _ _ _ _).2.2.2)));
        (first | have l0 := ((HB3.out.cell (show w.heap.size < w2.heap.size by have := HS1.out; have := HB2.out.size; omega)).trans j0); have l1 := ((HB3.out.cell (show w.heap.size < w2.heap.size by have := HS1.out; have := HB2.out.size; omega)).trans j1)); clear hb3))
  all_goals (try go_wp2)
  all_goals go_ret2
  all_goals (refine ⟨rfl, below_two (b := w2) (below_two HB1.out HB2.out) ?_⟩; first | exact HB3.out | exact below_two HB3.out (below_new _ _) | exact below_two (b := w3) HB3.out ⟨rfl, rfl, rfl, (below_new w3 _).size, (below_new w3 _).block⟩)
end Go.Proofs.YtapebbejdgeijaaDoor
