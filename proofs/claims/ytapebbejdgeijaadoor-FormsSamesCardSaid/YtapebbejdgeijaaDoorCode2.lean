/- rule.Code of a rule of two symbols and radius 1. -/
import Derived.Test.YtapebbejdgeijaaDoorCodeR
namespace Go.Proofs.YtapebbejdgeijaaDoor
open Go.RowKit Go.Extern.Stop Go.Stop Go.Extern Go.Deep Go.Shelf

attribute [local go_sem] Oper.semAt_some

set_option maxRecDepth 100000 in
set_option maxHeartbeats 8000000 in
theorem code2_calls (B : Nat) (S : Nat → Addr) (w : World) (hE : Env B S w) (b off cap : Nat) (zs : List (Fin 4)) (T : List Int) (hT : T = zs.map fun x : Fin 4 => ((x.val : Nat) : Int)) (hl : zs.length = 8) (hz : ∀ x ∈ T, 0 ≤ x ∧ x < ((2 : Nat) : Int)) (hr : RI w .i64 (some ⟨b, off, none⟩) T) :
    Calls Tryd.prog 101 #[.agg #[.int .i64 2, .int .i64 1, .slice (some ⟨b, off, none⟩) 8 cap]] w fun e w' => ∃ A c, e = .returned (.tuple #[.slice A (natL (nv 2 (backTo 0 zs 8))).length c, .nilIface]) ∧ (natL (nv 2 (backTo 0 zs 8))).length ≤ c ∧ Limb w' A (natL (nv 2 (backTo 0 zs 8))).length (nv 2 (backTo 0 zs 8)) ∧ Below w.heap.size w w' := by
  have hTl : T.length = 8 := by rw [hT, List.length_map, hl]
  obtain ⟨w1, hw1⟩ : ∃ w1, w1 = w.alloc (.cells #[.int .i64 2, .int .i64 1, .slice (some ⟨b, off, none⟩) 8 cap] 57) := ⟨_, rfl⟩
  have HW1 := hid hw1
  have HB1 : Hid (Below w.heap.size w w1) := by show Below _ _ _; rw [hw1]; exact below_new w _
  have C1 : Hid (Cell3 w1 w.heap.size 57 (.int .i64 2) (.int .i64 1) (.slice (some ⟨b, off, none⟩) 8 cap)) := by show Cell3 _ _ _ _ _ _; rw [hw1]; exact heap_alloc_new w _
  have HR1 := hid (hr.below HB1.out (Nat.le_refl _))
  have HSM := hid (small_ok B S w1 (hE.below' HB1.out) 2 1 (by decide) (by decide) (by decide) (some ⟨b, off, none⟩) 8 cap T hTl.symm hTl hz (by decide) HR1.out)
  obtain ⟨k0, k1, k2⟩ := cells3 C1.out
  rw [hw1] at k0 k1 k2
  have HTT := hid hT
  have HL := hid hl
  have hblt : b < w.heap.size := by
    obtain ⟨b', o', hA, h, _⟩ := hr.2 (by rw [hTl]; decide)
    simp only [Option.some.injEq, Addr.mk.injEq, and_true] at hA
    omega
  clear hw1 hE hr hz hT hl hTl
  refine (callsIn_wide (n := 3)).1 ?_
  refine callsIn_of_wp_marks Tryd.func101 rfl trivial ?_ rfl
  simp only [Tryd.ntmps101, List.size_toArray, List.length_cons, List.length_nil, Nat.reduceAdd, Nat.reduceSub, Array.replicate_succ, Array.replicate_zero, List.push_toArray, List.append_toArray, List.nil_append, List.cons_append]
  gi_wp2_with (first
    | (refine ⟨trivial, ?_⟩; gi_at_call 123; rw [← show w1 = _ from HW1.out]; refine (callsIn_wide.2 HSM.out).mono ?_; rintro e w2 ⟨rfl, hb2⟩; have HB2 := hid (below_then HB1.out hb2 HB1.out.size); have C2 := hid (C1.out.below hb2); have HR2 := hid (HR1.out.below hb2 (Nat.le_refl _)); obtain ⟨j0, j1, j2⟩ := cells3 (C2.out.below (below_new w2 (.cells #[.slice none 0 0] 153))); clear hb2)
    | (refine ⟨trivial, ?_⟩; gi_at_call 124; refine (backward_in Fence.wide _ trivial rfl (some ⟨b, off, none⟩) 8 cap _).mono ?_; rintro e w' ⟨rfl, rfl⟩))
  have BN := hid (below_new w2 (.cells #[.slice none 0 0] 153))
  have BM := hid (below_new (w2.alloc (.cells #[.slice none 0 0] 153)) (.cells #[.slice (some ⟨b, off, none⟩) 8 cap] 22))
  have G5 : Hid (((w2.alloc (.cells #[.slice none 0 0] 153)).alloc (.cells #[.slice (some ⟨b, off, none⟩) 8 cap] 22)).heap[w2.heap.size]? = some (.cells #[.slice none 0 0] 153 (0, 0))) := (BM.out.block _ (by simp)).trans (heap_alloc_new w2 _)
  have GB : Hid (((w2.alloc (.cells #[.slice none 0 0] 153)).alloc (.cells #[.slice (some ⟨b, off, none⟩) 8 cap] 22)).cell? ⟨w2.heap.size + 1, 0, none⟩ = some (.slice (some ⟨b, off, none⟩) 8 cap)) := by
    have h := cell_one (w2.alloc (.cells #[.slice none 0 0] 153)) (.slice (some ⟨b, off, none⟩) 8 cap) 22
    rw [World.size_alloc] at h
    exact h
  have HS5 : Hid (((w2.alloc (.cells #[.slice none 0 0] 153)).alloc (.cells #[.slice (some ⟨b, off, none⟩) 8 cap] 22)).heap.size = w2.heap.size + 2) := by show _ = _; simp
  have B25 := hid (below_two BN.out BM.out)
  have HB5 := hid (below_then HB2.out B25.out HB2.out.size)
  have HR5 := hid (HR2.out.below B25.out (Nat.le_refl _))
  have C5 := hid (C2.out.below B25.out)
  have hs2 : w.heap.size < w2.heap.size := C2.out.lt
  clear BN BM
  generalize (w2.alloc (.cells #[.slice none 0 0] 153)).alloc (.cells #[.slice (some ⟨b, off, none⟩) 8 cap] 22) = W5 at *
  generalize w2.heap.size = g5 at *
  have hcells : ∀ j, j < zs.length → W5.cell? ⟨b, off + j, none⟩ = some (.int .i64 (((zs[j]?.getD 0).val : Nat) : Int)) := fun j hj => by
    obtain ⟨b', o', x, hA, hx, hc⟩ := HR5.out.at_ (show j < T.length by rw [HTT.out, List.length_map]; exact hj)
    simp only [Option.some.injEq, Addr.mk.injEq, and_true] at hA
    obtain ⟨rfl, rfl⟩ := hA
    rw [HTT.out, List.getElem?_map, List.getElem?_eq_getElem hj] at hx
    rw [List.getElem?_eq_getElem hj]
    obtain rfl := Option.some.inj hx
    exact hc
  have hst := back_stops (0 : Fin 4) (fun x : Fin 4 => ((x.val : Nat) : Int)) Fence.wide 2 trivial rfl (by omega) (g5 + 1) W5.heap.size g5 b off cap zs (by rw [HL.out]; decide) W5 (by rw [HS5.out]; omega) (by omega) (by rw [HS5.out]; omega) (by omega) (Nat.le_refl _) (by rw [HL.out]; exact GB.out) hcells
  refine wpIn_rangeFunc_ownG rfl (by omega) (gf := 137) (lb := #[.pointer (some ⟨g5 + 1, 0, none⟩)]) rfl trivial (enters_of Tryd.func137 (by kernel_rfl) rfl) hst KpX.trans (kpX_put (Nat.le_refl _)) (Below.refl _ _) (fun _ => rfl)
    (fun pre W => (∃ (A : Option Addr) (m c : Nat), W.cell? ⟨g5, 0, none⟩ = some (.slice A m c) ∧ W.frozen? ⟨g5, 0, none⟩ = false ∧ m = (natL (nv 2 pre)).length ∧ m ≤ c ∧ Limb W A m (nv 2 pre) ∧ W.cell? ⟨w.heap.size, 0, none⟩ = some (.int .i64 2)) ∧ Below g5 W5 W)
    (fun _ _ _ => False)
    (OwnFrom.and (Own.from (fun s A B row hs hg hr => by
      obtain ⟨A', m, c, h1, h2, h3, h4, h5, h6⟩ := hs
      refine ⟨A', m, c, cell_kept h1 hg hr, (frozen_kept h1 hg hr).trans h2, h3, h4, ?_, cell_kept h6 hg hr⟩
      obtain ⟨q0, q1, q2 | ⟨q2, b', o', q3, q4⟩⟩ := h5
      · exact ⟨q0, q1, .inl q2⟩
      · exact ⟨q0, q1, .inr ⟨q2, b', o', q3, cell_kept q4 hg hr⟩⟩) _) (ownFrom_below (by rw [HS5.out]; omega) (by rw [HS5.out]; omega)))
    (fun _ _ _ _ _ hs _ _ => hs)
    ⟨⟨none, 0, 0, by simp [World.cell?, show _ = _ from G5.out], by simp [World.frozen?, show _ = _ from G5.out], rfl, Nat.le_refl _, ⟨by decide, by decide, .inl ⟨rfl, rfl⟩⟩, (cells3 C5.out).1⟩, Below.refl _ _⟩
    (fun x => { tmps := #[.agg #[.int .i64 2, .int .i64 1, .slice (some ⟨b, off, none⟩) 8 cap], .pointer (some ⟨w.heap.size, 0, none⟩), .slice none 0 0, .nilIface, .nilIface, .pointer (some ⟨g5, 0, none⟩), undef, .int .i64 ((x.2.val : Nat) : Int), .agg #[.int .i64 2, .int .i64 1, .slice (some ⟨b, off, none⟩) 8 cap], .nilIface, .nilIface, .bool false, undef, .pointer (some ⟨w.heap.size, 2, none⟩), .slice (some ⟨b, off, none⟩) 8 cap, .func (.func 137) #[] #[.pointer (some ⟨g5 + 1, 0, none⟩)], .int .i64 (x.1 : Int), .int .i64 ((x.2.val : Nat) : Int), undef, undef, undef, undef, undef, undef, undef, undef, undef, undef, undef], defers := [] }) ?assign ?body ?done ?stop
  case assign =>
    intro l x W K hK
    gi_wp2
    exact hK
  case body =>
    rintro l pre x W ⟨⟨A, m, c, h1, h2, h3, h4, h5, h6⟩, hB⟩ hlt
    obtain ⟨n0, n1⟩ := nv_bound2 pre
    have n2 : nv 2 pre ≤ 400 := by
      have hlt' : pre.length < 8 := by rw [HL.out] at hlt; exact hlt
      have h8 : (2 : Int) ^ pre.length ≤ 2 ^ 7 := by
        have := Nat.pow_le_pow_right (show 0 < 2 by decide) (show pre.length ≤ 7 by omega)
        exact_mod_cast this
      omega
    have hx4 := x.2.isLt
    have HBW := hid hB
    have HSN := hid (nv_snoc 2 pre x)
    have H3 := hid h3
    have H5 := hid h5
    have hgl := World.block_lt_of_cell? W _ h1
    have hwl := World.block_lt_of_cell? W _ h6
    obtain ⟨xi, xv⟩ := x
    dsimp only at hx4 HSN ⊢
    obtain ⟨xx, hxx⟩ : ∃ xx : Nat, xx = xv.val := ⟨_, rfl⟩
    rw [← hxx] at hx4 HSN ⊢
    generalize nv 2 pre = v at *
    have hxx0 : (0 : Int) ≤ (xx : Int) := by omega
    have hxx1 : (xx : Int) < 4294967296 := by omega
    have HN : Hid (nv 2 (pre ++ [(xi, xv)]) = v * 2 + (xx : Int)) := HSN.out
    clear h3 h5 hxx n1 hB HSN
    have hd : 1 ≤ 3 - 1 - 1 := by omega
    have w2 : IntKind.u64.wrap 2 = 2 := by decide
    have wx : IntKind.u64.wrap (xx : Int) = (xx : Int) := by rw [IntKind.wrap_u64]; omega
    have hmx : Tryd.prog.follows .mixedOrders = true := by kernel_rfl
    gi_wp2
    gi_region_with_o (first
      | (refine ⟨trivial, ?_⟩; gi_at_call 120; refine (CallsIn.inRound l (callsIn_wide.2 (mul_calls _ _ _ _ _ _ v 2 (H5.out.below HB3.out) HF2.out (by omega)))).mono ?_; rintro e w4 ⟨A4, c4, rfl, _, hr4, hb4⟩; have HML := hid (Limb.of (by omega) (by omega) hr4); have HB4 := hid (below_two HB3.out hb4); clear hb4 hr4)
      | (refine ⟨trivial, ?_⟩; gi_at_call 119; refine (CallsIn.inRound l (callsIn_wide.2 (add_calls _ _ _ _ _ _ _ (v * 2) (xx : Int) HML5.out HFX.out (by omega)))).mono ?_; rintro e w6 ⟨A6, c6, rfl, hc6, hr6, hb6⟩; have HAL := hid (Limb.of (by omega) (by omega) hr6); have HC6 := hid hc6; have HB6 := hid (below_two HB5'.out hb6); have k1' := (HB6.out.cell (show g5 < _ from hgl)).trans h1; have f1' := (World.frozen?_of_block (a := ⟨g5, 0, none⟩) (HB6.out.block g5 hgl)).trans h2; clear hb6 hr6 hc6)
      | (have HB4q := HB4.out; clear HB4q; refine ⟨trivial, ?_⟩; gi_at_call 125; refine (CallsIn.inRound l (callsIn_wide.2 (natFrom_calls _ (xx : Int) hxx0 hxx1))).mono ?_; rintro e w5 ⟨A5, c5, rfl, _, hr5, hb5⟩; have HFX := hid (Limb.of hxx0 hxx1 hr5); have HML5 := hid (HML.out.below hb5); have HB5' := hid (below_two HB4.out hb5); clear hb5 hr5)
      | (refine ⟨trivial, ?_⟩; gi_at_call 125; refine (CallsIn.inRound l (callsIn_wide.2 (natFrom_calls _ 2 (by decide) (by decide)))).mono ?_; rintro e w3 ⟨A3, c3, rfl, _, hr3, hb3'⟩; have hb3 : Below W.heap.size W w3 := ⟨hb3'.os, hb3'.tape, hb3'.output, hb3'.size, hb3'.block⟩; rw [show (natL 2).length = 1 from rfl]; have HF2 : Hid (Limb w3 A3 1 2) := Limb.of (by decide) (by decide) hr3; have HB3 := hid hb3; have k1 := (hb3.cell (show g5 < _ from hgl)).trans h1; have k6 := (hb3.cell (show w.heap.size < _ from hwl)).trans h6; clear hb3 hb3' hr3))
    all_goals gi_wp2
    all_goals exact round_fin _ HN.out rfl (by have e5 : W5.heap.size = g5 + 2 := HS5.out; omega) hs2 HBW.out HB6.out HAL.out HC6.out k1' f1' h6
  case done =>
    rintro D ys W hD rfl ⟨⟨A, m, c, h1, h2, h3, h4, h5, h6⟩, hB⟩ hK
    rw [HL.out] at h3 h5
    have hB2 := below_then HB5.out hB (Nat.le_of_lt hs2)
    gi_wp2
    refine ⟨by simp, .inl ⟨_, _, rfl, run_takeDeferred hK, ?_⟩⟩
    refine ⟨_, results_tmp2 rfl _ _ _, A, c, ?_, ?_, ?_, hB2.trans (belowK_b (w := w) (Nat.le_refl _) W D _ _ (by have e5 : W5.heap.size = g5 + 2 := HS5.out; have hD' : W5.heap.size ≤ D := hD; omega) hK rfl rfl)⟩
    · rfl
    · exact h3 ▸ h4
    · rw [← h3]
      obtain ⟨q0, q1, q2 | ⟨q2, b', o', q3, q4⟩⟩ := h5
      · exact ⟨q0, q1, .inl q2⟩
      · exact ⟨q0, q1, .inr ⟨q2, b', o', q3, cell_kept q4 (grownBy_putObj' W D _) (fun r e => by cases e; exact ⟨_, hK, rfl⟩)⟩⟩
  case stop =>
    rintro D c pre W _ _ h _
    exact h.elim
end Go.Proofs.YtapebbejdgeijaaDoor
