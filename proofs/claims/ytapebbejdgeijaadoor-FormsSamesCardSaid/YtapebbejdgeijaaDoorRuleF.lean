/- rule.head of 2.1.110; rule.From at numbers of one limb. -/
import Derived.Test.YtapebbejdgeijaaDoorNatB
import Derived.Test.YtapebbejdgeijaaDoorFormF
namespace Go.Proofs.YtapebbejdgeijaaDoor
open Go.RowKit Go.Extern.Stop Go.Stop Go.Extern Go.Deep

theorem Tryd.entersHeadC : Enters Tryd.prog 118 := enters_of Tryd.func118 (by kernel_rfl) rfl
theorem below_two {a b c : World} (h : Below a.heap.size a b) (k : Below b.heap.size b c) : Below a.heap.size a c := below_then h k h.size
def s110 : ByteArray := ⟨#[50, 46, 49, 46, 49, 49, 48]⟩

set_option maxRecDepth 100000 in
theorem headC_calls (w : World) (g : Nat) (i low high : Int) (x : Int) (hg : w.cell? ⟨g, 0, none⟩ = some (.string s110)) (hi : (i = 0 ∧ x = 50) ∨ (i = 1 ∧ x = 46) ∨ (i = 2 ∧ x = 49) ∨ (i = 3 ∧ x = 46)) (h1 : low ≤ x) (h2 : x ≤ high) :
    Calls Tryd.prog 118 #[.int .i64 i, .int .u8 low, .int .u8 high, .pointer (some ⟨g, 0, none⟩)] w fun e w' => e = .returned (.bool true) ∧ w' = w := by
  unfold s110 at hg
  rcases hi with ⟨rfl, rfl⟩ | ⟨rfl, rfl⟩ | ⟨rfl, rfl⟩ | ⟨rfl, rfl⟩
  · have z : ((((⟨#[50, 46, 49, 46, 49, 49, 48]⟩ : ByteArray)[0]'(by decide)).toNat : Nat) : Int) = 50 := by rfl
    go_enter Tryd.func118, Tryd.ntmps118
    go_wp2_with fail
    go_ret
    exact ⟨rfl, rfl⟩
  · have z : ((((⟨#[50, 46, 49, 46, 49, 49, 48]⟩ : ByteArray)[1]'(by decide)).toNat : Nat) : Int) = 46 := by rfl
    go_enter Tryd.func118, Tryd.ntmps118
    go_wp2_with fail
    go_ret
    exact ⟨rfl, rfl⟩
  · have z : ((((⟨#[50, 46, 49, 46, 49, 49, 48]⟩ : ByteArray)[2]'(by decide)).toNat : Nat) : Int) = 49 := by rfl
    go_enter Tryd.func118, Tryd.ntmps118
    go_wp2_with fail
    go_ret
    exact ⟨rfl, rfl⟩
  · have z : ((((⟨#[50, 46, 49, 46, 49, 49, 48]⟩ : ByteArray)[3]'(by decide)).toNat : Nat) : Int) = 46 := by rfl
    go_enter Tryd.func118, Tryd.ntmps118
    go_wp2_with fail
    go_ret
    exact ⟨rfl, rfl⟩

set_option maxRecDepth 100000 in
set_option maxHeartbeats 4000000 in
theorem head_calls (w : World) : Calls Tryd.prog 92 #[.string s110] w fun e w' => e = .returned (.int .i64 4) ∧ Below w.heap.size w w' := by
  have HC : Hid ((w.alloc (.cells #[.string s110] 9)).cell? ⟨w.heap.size, 0, none⟩ = some (.string s110)) := cell_one w _ _
  have HB := hid (below_new w (.cells #[.string s110] 9))
  go_enter Tryd.func92, Tryd.ntmps92
  go_wp2_with fail
  refine wp_loop_rounds 5 ?_
  rw [rounds_succ]
  go_wp2_with (first | (go_at_call 118; refine (headC_calls _ w.heap.size _ _ _ 50 HC.out (by decide) (by decide) (by decide)).mono ?_; rintro e w' ⟨rfl, rfl⟩))
  rw [rounds_succ]
  go_wp2_with (first | (go_at_call 118; refine (headC_calls _ w.heap.size _ _ _ 46 HC.out (by decide) (by decide) (by decide)).mono ?_; rintro e w' ⟨rfl, rfl⟩))
  rw [rounds_succ]
  go_wp2_with (first | (go_at_call 118; refine (headC_calls _ w.heap.size _ _ _ 49 HC.out (by decide) (by decide) (by decide)).mono ?_; rintro e w' ⟨rfl, rfl⟩))
  rw [rounds_succ]
  go_wp2_with (first | (go_at_call 118; refine (headC_calls _ w.heap.size _ _ _ 46 HC.out (by decide) (by decide) (by decide)).mono ?_; rintro e w' ⟨rfl, rfl⟩))
  rw [rounds_succ]
  go_wp2_with fail
  go_ret
  exact ⟨rfl, HB.out⟩

theorem Limb.setI {w : World} {A : Option Addr} {m g j : Nat} {x : Int} {xs : List Int} {v : Value} (h : Limb w A m x) (ht : IntBlk w g xs) : Limb (w.setCell ⟨g, j, none⟩ v) A m x := by
  obtain ⟨h0, h1, h2 | ⟨h2, b, o, h3, h4⟩⟩ := h
  · exact ⟨h0, h1, .inl h2⟩
  · have hne : b ≠ g := fun e => by
      subst e
      unfold IntBlk at ht
      simp [World.cell?, ht] at h4
    refine ⟨h0, h1, .inr ⟨h2, b, o, h3, ?_⟩⟩
    unfold World.cell? at h4 ⊢
    simp only [Below.heap_setCell w ⟨g, j, none⟩ v b hne]
    exact h4
/-! ### From -/
def codeT (k : Nat) (n : Nat) (x : Nat) : List Int := (List.range n).map fun i => ((x / k ^ i % k : Nat) : Int)

set_option maxRecDepth 100000 in
theorem from_calls (w : World) (k R : Nat) (hk1 : 1 ≤ k) (hk4 : k ≤ 4) (hR : R ≤ 3) (hz : sz k R ≤ 256) (A : Option Addr) (m c : Nat) (x : Nat) (hx : Limb w A m x) (hm : m = (natL x).length) (hlt : x < k ^ sz k R) :
    Calls Tryd.prog 96 #[.int .i64 k, .int .i64 R, .slice A m c] w fun e w' => ∃ g c', e = .returned (.tuple #[.agg #[.int .i64 k, .int .i64 R, .slice (some ⟨g, 0, none⟩) (codeT k (sz k R) x).length c'], .nilIface]) ∧ w.heap.size ≤ g ∧ IntBlk w' g (codeT k (sz k R) x) ∧ Below w.heap.size w w' := by
  obtain ⟨w1, hw1⟩ : ∃ w1, w1 = w.alloc (.cells #[.int .i64 0, .int .i64 0, .slice none 0 0] 57) := ⟨_, rfl⟩
  have HW1 := hid hw1
  have HB1 : Hid (Below w.heap.size w w1) := by show Below _ _ _; rw [hw1]; exact below_new w _
  have C1 : Hid (Cell3 w1 w.heap.size 57 (.int .i64 0) (.int .i64 0) (.slice none 0 0)) := by show Cell3 _ _ _ _ _ _; rw [hw1]; exact heap_alloc_new w _
  have HX := hid hx
  have HLT := hid hlt
  have HMM := hid hm
  clear hw1 hx hlt hm
  obtain ⟨z, hzz⟩ : ∃ z, z = sz k R := ⟨_, rfl⟩
  have HZ := hid hzz
  rw [← hzz] at hz
  have hmk := run_make_row' (P := Tryd.prog) 22 3 (.int .i64 0) 8 Tryd.underlying22 Tryd.infoInt rfl .i64 .i64 z (by omega) (by omega)
  clear hzz
  go_enter Tryd.func96, Tryd.ntmps96
  go_wp2_with fail
  rw [← show w1 = _ from HW1.out]
  refine (size_calls w1 k R hk1 hk4 hR).mono ?_
  rintro e w2 ⟨rfl, rfl⟩
  rw [← show z = sz k R from HZ.out]
  go_wp2_with fail
  have HT0 : Hid (IntBlk (w2.alloc (.cells (madeCells #[.int .i64 0] z) 3)) w2.heap.size (List.replicate z 0)) := IntBlk.made w2 z
  have BT := hid (below_new w2 (.cells (madeCells #[.int .i64 0] z) 3))
  have BO := hid (below_new (w2.alloc (.cells (madeCells #[.int .i64 0] z) 3)) (.cells #[.int .i64 k, .int .i64 R, .slice (some ⟨w2.heap.size, 0, none⟩) z z] 57))
  have CO : Hid (Cell3 ((w2.alloc (.cells (madeCells #[.int .i64 0] z) 3)).alloc (.cells #[.int .i64 k, .int .i64 R, .slice (some ⟨w2.heap.size, 0, none⟩) z z] 57)) (w2.heap.size + 1) 57 (.int .i64 k) (.int .i64 R) (.slice (some ⟨w2.heap.size, 0, none⟩) z z)) := by
    have h := heap_alloc_new (w2.alloc (.cells (madeCells #[.int .i64 0] z) 3)) (.cells #[.int .i64 k, .int .i64 R, .slice (some ⟨w2.heap.size, 0, none⟩) z z] 57)
    rw [World.size_alloc] at h
    exact h
  have HS : Hid (w.heap.size < w2.heap.size) := C1.out.lt
  have HB3 := hid (below_then HB1.out (below_two BT.out BO.out) HB1.out.size)
  have HL3 := hid ((HX.out.below HB1.out).below (below_two BT.out BO.out))
  have HT3 := hid (HT0.out.of_heap (BO.out.block _ HT0.out.lt))
  have C13 := hid (C1.out.below (below_two BT.out BO.out))
  clear HT0 BT BO C1 HB1
  generalize (w2.alloc (.cells (madeCells #[.int .i64 0] z) 3)).alloc (.cells #[.int .i64 k, .int .i64 R, .slice (some ⟨w2.heap.size, 0, none⟩) z z] 57) = w3 at *
  generalize w2.heap.size = gT at *
  go_loopw [37, 2] (fun i v wr => ∃ (j y : Nat) (A' : Option Addr) (m' c' : Nat), j ≤ z ∧ i = .int .i64 j ∧ v = .slice A' m' c' ∧ y = x / k ^ j ∧ Limb wr A' m' y ∧ m' = (natL y).length ∧ IntBlk wr gT (tabAt (fun i => ((x / k ^ i % k : Nat) : Int)) z j) ∧ Cell3 wr (gT + 1) 57 (.int .i64 k) (.int .i64 R) (.slice (some ⟨gT, 0, none⟩) z z) ∧ Cell3 wr w.heap.size 57 (.int .i64 0) (.int .i64 0) (.slice none 0 0) ∧ Below w.heap.size w wr) (fun i _ _ => z - (intOf i).toNat)
  case atStart => exact ⟨0, x, A, m, c, Nat.zero_le _, rfl, rfl, by simp, HL3.out, HMM.out, by rw [tabAt_zero]; exact HT3.out, CO.out, C13.out, HB3.out⟩
  case round =>
    obtain ⟨j, y, A', m', c', hj, rfl, rfl, hy, hl, hm', ht, ho, h1, hb⟩ := hrel
    have HY := hid hy
    have HL := hid hl
    have HM' := hid hm'
    have HT := hid ht
    have HO := hid ho
    have H1 := hid h1
    have HB := hid hb
    clear hy hl hm' ht ho h1 hb
    by_cases hlt : j < z
    · go_wp2_with fail
      refine (over_calls wr A' m' c' y k HL.out (by omega) (by omega)).mono ?_
      rintro e w4 ⟨A2, c2, rfl, hc2, hr2, hb2⟩
      have hq : ((y : Int) / (k : Int)) = ((y / k : Nat) : Int) := (Int.natCast_ediv y k).symm
      have hq2 : ((y : Int) % (k : Int)) = ((y % k : Nat) : Int) := (Int.natCast_emod y k).symm
      rw [hq] at hr2 ⊢
      rw [hq2]
      have hyk : y % k < 4 := by have := Nat.mod_lt y (show 0 < k by omega); omega
      have HL2 : Hid (Limb w4 A2 (natL ((y / k : Nat) : Int)).length ((y / k : Nat) : Int)) := Limb.of (Int.natCast_nonneg _) (Int.lt_of_le_of_lt (Int.ofNat_le.2 (Nat.div_le_self y k)) HL.out.2.1) hr2
      obtain ⟨m2, hm2⟩ : ∃ m2, m2 = (natL ((y / k : Nat) : Int)).length := ⟨_, rfl⟩
      rw [← hm2] at HL2 ⊢
      have HM2 := hid hm2
      have HT4 := hid (HT.out.of_heap (hb2.block _ HT.out.lt))
      have HO4 := hid (HO.out.below hb2)
      have H14 := hid (H1.out.below hb2)
      have HB4 := hid (below_then HB.out hb2 HB.out.size)
      obtain ⟨v0, hv0⟩ : ∃ v0, (tabAt (fun i => ((x / k ^ i % k : Nat) : Int)) z j)[j]? = some v0 := ⟨_, List.getElem?_eq_getElem (by rw [tabAt_length _ hj]; exact hlt)⟩
      have ct := HT4.out.cell hv0
      have ft := HT4.out.fz j
      have co := (cells3 HO4.out).2.2
      have HYK : Hid (y % k = x / k ^ j % k) := by show _ = _; rw [HY.out]
      have HYQ : Hid (y / k = x / k ^ (j + 1)) := by show _ = _; rw [HY.out, Nat.div_div_eq_div_mul, ← Nat.pow_succ]
      generalize y % k = rr at *
      generalize y / k = qq at *
      clear hq hq2 hr2 hc2 hb2 hm2 hv0
      go_wp2_with fail
      go_region
      go_wp2_with fail
      go_roundw
      case measure => simp [intOf]; omega
      case rel =>
        have hgT : w.heap.size ≠ gT := by have := HS.out; omega
        refine ⟨j + 1, qq, A2, m2, c2, by omega, by go_num, rfl, HYQ.out, (HL2.out.setI HT4.out).below (below_drawn (Below.refl _ _) 1), HM2.out, ?_, (HO4.out.other (Nat.succ_ne_self _)).below (below_drawn (Below.refl _ _) 1), (H14.out.other hgT).below (below_drawn (Below.refl _ _) 1), below_drawn (Below.setCell HB4.out (Nat.le_of_lt HS.out) _) 1⟩
        rw [← tabAt_step (fun i => ((x / k ^ i % k : Nat) : Int)) hlt, ← HYK.out]
        exact HT4.out.set j (rr : Int)
    · obtain rfl : j = z := by omega
      have hy0 : y = 0 := by rw [HY.out, HZ.out]; exact Nat.div_eq_of_lt HLT.out
      subst hy0
      have hm0 : m' = 0 := HM'.out
      subst hm0
      go_wp2_with fail
      refine (bits_zero wr A' c').mono ?_
      rintro e w4 ⟨rfl, rfl⟩
      obtain ⟨k0, k1, k2⟩ := cells3 HO.out
      obtain ⟨c0, f0, c1, f1, c2, f2, r0, r1, r2⟩ := H1.out.facts (.int .i64 k) (.int .i64 R) (.slice (some ⟨gT, 0, none⟩) j j)
      have hl : (codeT k (sz k R) x).length = j := by rw [← HZ.out]; simp [codeT]
      have hgT : gT ≠ w.heap.size := by have := HS.out; omega
      have HTT : Hid (IntBlk (set3 w4 w.heap.size (.int .i64 k) (.int .i64 R) (.slice (some ⟨gT, 0, none⟩) j j)) gT (codeT k (sz k R) x)) := by
        have h := HT.out
        rw [tabAt_full, HZ.out] at h
        exact h.of_heap (set3_same _ hgT)
      have HL9 := hid hl
      clear hl
      go_wp2_with fail
      refine bodyPost_ret (v := .tuple #[.agg #[.int .i64 k, .int .i64 R, .slice (some ⟨gT, 0, none⟩) j j], .nilIface]) (by simp [results, Tryd.results96, go_sem, r0, r1, r2]) rfl ?_
      exact ⟨gT, j, by rw [HL9.out], Nat.le_of_lt HS.out, HTT.out, set3_below HB.out (Nat.le_refl _)⟩
end Go.Proofs.YtapebbejdgeijaaDoor
