/- slices.Clone of ints, slices.Reverse of three; package forms: Mirror at radius 1. -/
import Derived.Test.YtapebbejdgeijaaDoorFormF
namespace Go.Proofs.YtapebbejdgeijaaDoor
open Go.RowKit Go.Extern.Stop Go.Stop Go.Extern Go.Deep

set_option maxRecDepth 100000 in
theorem cloneI_calls (w : World) (g o n cap : Nat) (xs : List Int) (hn : n = xs.length) (hr : RI w .i64 (some ⟨g, o, none⟩) xs) (hl : n ≤ 4096) :
    Calls Tryd.prog 79 #[.slice (some ⟨g, o, none⟩) n cap] w fun e w' => ∃ v', e = .returned v' ∧ w'.ownsRow w.heap.size 3 1 v' n (xs.map (Value.int .i64)) ∧ Below w.heap.size w w' := by
  have hq := fun (w : World) (a : Option Addr) (n c n' c' : Nat) => Lib.run_eql_slice_nil (P := Tryd.prog) w _ _ a n c n' c' Tryd.underlying22
  have HX := hid hr
  have HN := hid hn
  clear hr hn
  go_enter Tryd.func79, Tryd.ntmps79
  have HB : Hid (Below w.heap.size w (w.alloc (.cells #[] 3))) := below_new w (.cells #[] 3)
  have HO : Hid ((w.alloc (.cells #[] 3)).ownsRow w.heap.size 3 1 (.slice (some ⟨w.heap.size, 0, none⟩) 0 0) 0 []) := own_lit [] 3 0 rfl (by omega)
  have hsz : w.heap.size ≤ (w.alloc (.cells #[] 3)).heap.size := by simp
  have HLL : Hid ((xs.map (Value.int .i64)).length = n) := by rw [List.length_map]; exact HN.out.symm
  go_wp2_with (at_builtin; refine appendN (w0 := w) w.heap.size (by rfl) (.tmp 5) (.tmp 6) 22 3 (.int .i64 0) 8 (by rfl) Tryd.underlying22 Tryd.infoInt (by rfl) (by decide) _ 0 [] (some ⟨g, o, none⟩) cap (xs.map (Value.int .i64)) (by rfl) (by rw [HLL.out]; rfl) (int_oneCell _ _) (fun e => absurd e (by simp)) (HX.out.below HB.out (Nat.le_refl _)).cells HO.out HB.out hsz (by rw [HLL.out]; omega) ?_; intro v1 w1 o1 b1 g1 _)
  go_ret
  refine ⟨_, rfl, ?_, b1⟩
  rw [HLL.out] at o1
  simpa using o1

set_option maxRecDepth 100000 in
theorem reverse3_calls (w : World) (base g cap : Nat) (a b c : Int) (h : w.ownsRow base 3 1 (.slice (some ⟨g, 0, none⟩) 3 cap) 3 ([a, b, c].map (Value.int .i64))) :
    Calls Tryd.prog 99 #[.slice (some ⟨g, 0, none⟩) 3 cap] w fun e w' => (∃ v, e = .returned v) ∧ w'.ownsRow base 3 1 (.slice (some ⟨g, 0, none⟩) 3 cap) 3 ([c, b, a].map (Value.int .i64)) ∧ Below base w w' := by
  have HO := hid h
  have hg : base ≤ g := by
    obtain ⟨g', cap', e, _, hb, _, _⟩ := own_form h (by decide)
    simp only [Value.slice.injEq, Option.some.injEq, Addr.mk.injEq, and_true, true_and] at e
    omega
  have c0 : w.cell? ⟨g, 0, none⟩ = some (.int .i64 a) := h.cellAt 0 (by simp)
  have c2 : w.cell? ⟨g, 2, none⟩ = some (.int .i64 c) := h.cellAt 2 (by simp)
  have f0 := h.frozenAt 0
  have f2 := h.frozenAt 2
  clear h
  go_enter Tryd.func99, Tryd.ntmps99
  go_wp2_with fail
  refine wp_loop_rounds 2 ?_
  rw [rounds_succ]
  go_wp2_with fail
  go_region
  go_wp2_with fail
  rw [rounds_succ]
  go_wp2_with fail
  go_end0
  have h1 := own_below HO.out (below_drawn (Below.refl _ _) 1) (Nat.le_refl _)
  exact ⟨⟨_, rfl⟩, own_set (own_set h1 0 (.int .i64 c)) 2 (.int .i64 a), Below.setCell (Below.setCell (below_drawn (Below.refl _ _) 1) hg _) hg _⟩

theorem Tryd.entersMirrorC : Enters Tryd.prog 98 := enters_of Tryd.func98 (by kernel_rfl) rfl

set_option maxRecDepth 100000 in
theorem mirrorC_calls (w : World) (k : Nat) (hk1 : 1 ≤ k) (hk4 : k ≤ 4) (A : Option Addr) (m c : Nat) (T : List Int) (hm : m = T.length) (hT : T.length = sz k 1) (hr : RI w .i64 A T)
    (b : Nat) (hb : Cell3 w b 57 (.int .i64 k) (.int .i64 (1 : Nat)) (.slice A m c)) (g i : Nat) (hg : RI w .i64 (some ⟨g, 0, none⟩) (ints (digs k (2 * 1 + 1) i))) :
    Calls Tryd.prog 98 #[.slice (some ⟨g, 0, none⟩) (2 * 1 + 1) (2 * 1 + 1), .pointer (some ⟨b, 0, none⟩)] w fun e w' => e = .returned (.int .i64 (T.getD (num k (digs k (2 * 1 + 1) i).reverse) 0)) ∧ Below w.heap.size w w' := by
  obtain ⟨x, y, z, hd⟩ : ∃ x y z, digs k (2 * 1 + 1) i = [x, y, z] := ⟨_, _, _, rfl⟩
  have hlt : num k [z, y, x] < T.length := by
    rw [hT]
    refine num_lt hk1 [z, y, x] (fun d h => digs_lt hk1 (2 * 1 + 1) i d ?_)
    rw [hd]
    simp at h ⊢
    omega
  have HD : Hid (∀ d ∈ [z, y, x], d < k) := fun d h => digs_lt hk1 (2 * 1 + 1) i d (by rw [hd]; simp at h ⊢; omega)
  have HX : Hid (T[num k [z, y, x]]? = some (T.getD (num k [z, y, x]) 0)) := getD_some hlt
  rw [hd] at hg ⊢
  rw [show [x, y, z].reverse = [z, y, x] from rfl]
  have HG := hid hg
  have HR := hid hr
  have HM := hid hm
  have HC := hid hb
  generalize T.getD (num k [z, y, x]) 0 = v at *
  clear hg hr hm hT hb hlt hd
  rw [show (2 * 1 + 1 : Nat) = 3 from rfl]
  go_enter Tryd.func98, Tryd.ntmps98
  go_wp2_with fail
  refine (cloneI_calls w g 0 3 3 (ints [x, y, z]) rfl HG.out (by decide)).mono ?_
  rintro e w1 ⟨v1, rfl, ho, hb1⟩
  obtain ⟨g1, cap, rfl, _, _, _, _⟩ := own_form ho (by decide)
  have HO := hid ho
  have HB1 := hid hb1
  clear ho hb1
  go_wp2_with fail
  refine (reverse3_calls w1 w.heap.size g1 cap x y z HO.out).mono ?_
  rintro e w2 ⟨⟨u, rfl⟩, ho2, hb2⟩
  have HO2 : Hid (RI w2 .i64 (some ⟨g1, 0, none⟩) (ints [z, y, x])) := own_ri_row ho2
  have HB2 := hid (HB1.out.trans hb2)
  obtain ⟨k0, k1, k2⟩ := cells3 (HC.out.below HB2.out)
  clear ho2 hb2
  go_wp2_with fail
  refine (symbol_calls w2 k hk1 hk4 _ A m c T HM.out (HR.out.below HB2.out (Nat.le_refl _)) (some ⟨g1, 0, none⟩) 3 cap [z, y, x] rfl HO2.out HD.out (by simp) v HX.out).mono ?_
  rintro e w3 ⟨rfl, hb3⟩
  go_wp2_with fail
  go_ret
  exact ⟨rfl, below_then HB2.out hb3 HB2.out.size⟩

set_option maxRecDepth 100000 in
theorem mirror1_calls (B : Nat) (S : Nat → Addr) (w : World) (hE : Env B S w) (k : Nat) (hk1 : 1 ≤ k) (hk4 : k ≤ 4) (A : Option Addr) (m c : Nat) (T : List Int) (hm : m = T.length) (hT : T.length = sz k 1) (hx : ∀ x ∈ T, 0 ≤ x ∧ x < (k : Int)) (hr : RI w .i64 A T) :
    Calls Tryd.prog 58 #[.agg #[.int .i64 k, .int .i64 1, .slice A m c]] w fun e w' => ∃ A' c', e = .returned (.tuple #[.agg #[.int .i64 k, .int .i64 1, .slice A' (mirrorT k 1 T).length c'], .nilIface]) ∧ RI w' .i64 A' (mirrorT k 1 T) ∧ Below w.heap.size w w' := by
  obtain ⟨w1, hw1⟩ : ∃ w1, w1 = w.alloc (.cells #[.int .i64 k, .int .i64 1, .slice A m c] 57) := ⟨_, rfl⟩
  obtain ⟨w2, hw2⟩ : ∃ w2, w2 = w1.alloc (.cells #[.int .i64 0, .int .i64 0, .slice none 0 0] 57) := ⟨_, rfl⟩
  have s1 : w1.heap.size = w.heap.size + 1 := by rw [hw1, World.size_alloc]
  have b1 : Below w.heap.size w w1 := by rw [hw1]; exact below_new w _
  have b2 : Below w1.heap.size w1 w2 := by rw [hw2]; exact below_new w1 _
  have b12 := below_then b1 b2 b1.size
  have c1 : Cell3 w1 w.heap.size 57 (.int .i64 k) (.int .i64 (1 : Nat)) (.slice A m c) := by rw [hw1]; exact heap_alloc_new w _
  have c2 : Cell3 w2 (w.heap.size + 1) 57 (.int .i64 0) (.int .i64 0) (.slice none 0 0) := by rw [hw2, ← s1]; exact heap_alloc_new w1 _
  have c12 := c1.below b2
  obtain ⟨k0, k1, k2⟩ := cells3 c12
  have B12 := hid b12
  have C12 := hid c12
  have C22 := hid c2
  have HR2 := hid (hr.below b12 (Nat.le_refl _))
  have HE2 := hid ((hE.below' b1).below' b2)
  have HM := hid hm
  have HT := hid hT
  have HOK : Hid (ruleBad k 1 T = none) := ruleBad_ok (r := 1) hk1 hk4 (by decide) hT hx
  rw [hw2, hw1] at k0 k1 k2
  have HW : Hid (w2 = (w.alloc (.cells #[.int .i64 k, .int .i64 1, .slice A m c] 57)).alloc (.cells #[.int .i64 0, .int .i64 0, .slice none 0 0] 57)) := by
    show _ = _
    rw [hw2, hw1]
  clear hw1 hw2 b1 b2 b12 c1 c2 c12 hr hm s1 hE hT hx
  go_enter Tryd.func58, Tryd.ntmps58
  go_wp2_with fail
  rw [← show w2 = _ from HW.out]
  refine (fCheck_calls B S w2 HE2.out 0 k 1 A m c T HM.out HR2.out).mono ?_
  rw [HOK.out]
  rintro e w3 ⟨hb, rfl⟩
  have HB3 := hid (below_then B12.out hb B12.out.size)
  have C13 := hid (C12.out.below hb)
  have C23 := hid (C22.out.below hb)
  have HR3 := hid (HR2.out.below hb (Nat.le_refl _))
  clear hb k0 k1 k2
  obtain ⟨k0, k1, k2⟩ := cells3 C13.out
  have HF : Hid (∀ (W : World) (g i : Nat), Below w3.heap.size w3 W → i < sz k 1 → RI W .i64 (some ⟨g, 0, none⟩) (ints (digs k (2 * 1 + 1) i)) → Calls Tryd.prog 98 (#[.slice (some ⟨g, 0, none⟩) (2 * 1 + 1) (2 * 1 + 1)] ++ #[.pointer (some ⟨w.heap.size, 0, none⟩)]) W fun e W' => e = .returned (.int .i64 (T.getD (num k (digs k (2 * 1 + 1) i).reverse) 0)) ∧ Below W.heap.size W W') := fun W g i hB _ hg =>
    mirrorC_calls W k hk1 hk4 A m c T HM.out HT.out (HR3.out.below hB (Nat.le_refl _)) w.heap.size (C13.out.below hB) g i hg
  have HMD := hid (made_calls w3 k 1 hk1 hk4 (by decide) 98 #[.pointer (some ⟨w.heap.size, 0, none⟩)] _ Tryd.entersMirrorC HF.out)
  go_wp2_with fail
  refine HMD.out.mono ?_
  rintro e w4 ⟨A4, c4, rfl, ho, hb⟩
  rw [show ((List.range (sz k 1)).map fun i => T.getD (num k (digs k (2 * 1 + 1) i).reverse) 0) = mirrorT k 1 T from rfl] at ho ⊢
  have HB4 := hid (below_then HB3.out hb HB3.out.size)
  have C24 := hid (C23.out.below hb)
  have HO4 := hid (own_base ho HB3.out.size)
  clear ho hb k0 k1 k2
  obtain ⟨c0, f0, c1, f1, c2, f2, r0, r1, r2⟩ := C24.out.facts (.int .i64 k) (.int .i64 1) (.slice A4 (mirrorT k 1 T).length c4)
  go_wp2_with fail
  refine bodyPost_ret (v := .tuple #[.agg #[.int .i64 k, .int .i64 1, .slice A4 (mirrorT k 1 T).length c4], .nilIface]) (by simp [results, Tryd.results58, go_sem, r0, r1, r2]) rfl ?_
  exact ⟨A4, c4, rfl, own_ri_row (own_keep HO4.out _ (own_not_block HO4.out C24.out (by decide)) set3_same), set3_below HB4.out (Nat.le_succ _)⟩
end Go.Proofs.YtapebbejdgeijaaDoor
