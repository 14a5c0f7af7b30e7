/- edenlaw05.FormsSames answers true. -/
import Derived.Test.YtapebbejdgeijaaDoorAwake05
import Derived.Test.YtapebbejdgeijaaDoorFormI
import Derived.Test.YtapebbejdgeijaaDoorSamesP
import Derived.Test.YtapebbejdgeijaaDoorBagH
namespace Go.Proofs.YtapebbejdgeijaaDoor
open Go.RowKit Go.Extern.Stop Go.Stop Go.Extern Go.Deep

set_option maxRecDepth 100000 in
set_option maxHeartbeats 4000000 in
theorem formsSames_calls (B : Nat) (S : Nat → Addr) (w : World) (hE : Env B S w) (K R : Int) (A : Option Addr) (m c : Nat) (T : List Int) (K' R' : Int) (A' : Option Addr) (m' c' : Nat) (T' : List Int) (n : Int) (hm : m = T.length) (hr : RI w .i64 A T) (hm' : m' = T'.length) (hr' : RI w .i64 A' T') :
    Calls Tryd.prog 5 #[.agg #[.int .i64 K, .int .i64 R, .slice A m c], .agg #[.int .i64 K', .int .i64 R', .slice A' m' c'], .int .i64 n] w fun e w' => e = .returned (.bool true) ∧ Below w.heap.size w w' := by
  obtain ⟨w1, hw1⟩ : ∃ w1, w1 = w.alloc (.cells #[.int .i64 K, .int .i64 R, .slice A m c] 57) := ⟨_, rfl⟩
  obtain ⟨w2, hw2⟩ : ∃ w2, w2 = w1.alloc (.cells #[.int .i64 K', .int .i64 R', .slice A' m' c'] 57) := ⟨_, rfl⟩
  have s1 : w1.heap.size = w.heap.size + 1 := by rw [hw1, World.size_alloc]
  have b1 : Below w.heap.size w w1 := by rw [hw1]; exact below_new w _
  have b2 : Below w1.heap.size w1 w2 := by rw [hw2]; exact below_new w1 _
  have HB_2 := hid (below_then b1 b2 b1.size)
  have c1 : Cell3 w1 w.heap.size 57 (.int .i64 K) (.int .i64 R) (.slice A m c) := by rw [hw1]; exact heap_alloc_new w _
  have CA_2 := hid (c1.below b2)
  have CC_2 : Hid (Cell3 w2 (w.heap.size + 1) 57 (.int .i64 K') (.int .i64 R') (.slice A' m' c')) := by show Cell3 _ _ _ _ _ _; rw [hw2, ← s1]; exact heap_alloc_new w1 _
  have HE_2 := hid ((hE.below' b1).below' b2)
  have RA_2 := hid (hr.below HB_2.out (Nat.le_refl _))
  have RB_2 := hid (hr'.below HB_2.out (Nat.le_refl _))
  have HM := hid hm
  have HM' := hid hm'
  have HW_2 : Hid (w2 = (w.alloc (.cells #[.int .i64 K, .int .i64 R, .slice A m c] 57)).alloc (.cells #[.int .i64 K', .int .i64 R', .slice A' m' c'] 57)) := by show _ = _; rw [hw2, hw1]
  clear hw1 hw2 b1 b2 c1 hr hr' hm hm' s1 hE
  go_enter Tryd.func5, Tryd.ntmps5
  go_wp2_with fail
  rw [← show w2 = _ from HW_2.out]
  refine (awake05_calls B S w2 HE_2.out).mono ?_
  rintro e w3 ⟨rfl, hb⟩
  have CA_3 := hid (CA_2.out.below hb)
  have CC_3 := hid (CC_2.out.below hb)
  have RA_3 := hid (RA_2.out.below hb (Nat.le_refl _))
  have RB_3 := hid (RB_2.out.below hb (Nat.le_refl _))
  have HE_3 := hid (HE_2.out.below' hb)
  have HB_3 := hid (below_two HB_2.out hb)
  clear CA_2 CC_2 RA_2 RB_2 HE_2 HB_2
  clear hb
  obtain ⟨CA0, CA1, CA2⟩ := cells3 CA_3.out
  go_wp2_with fail
  refine (narrow_calls B S w3 HE_3.out K R A m c T HM.out RA_3.out).mono ?_
  rintro e w4 ⟨hb, h⟩
  have CA_4 := hid (CA_3.out.below hb)
  have CC_4 := hid (CC_3.out.below hb)
  have RA_4 := hid (RA_3.out.below hb (Nat.le_refl _))
  have RB_4 := hid (RB_3.out.below hb (Nat.le_refl _))
  have HE_4 := hid (HE_3.out.below' hb)
  have HB_4 := hid (below_two HB_3.out hb)
  clear CA_3 CC_3 RA_3 RB_3 HE_3 HB_3
  clear hb
  clear CA0 CA1 CA2
  cases hbad : ruleBad K R T with
  | some i =>
    rw [hbad] at h
    obtain ⟨v, rfl, hc⟩ := h
    obtain ⟨vt, va, rfl⟩ := hc.form
    have HBAD := hid hbad
    clear hc hbad
    unfold zeroRule
    obtain ⟨w5, hw5⟩ : ∃ w5, w5 = w4.alloc (.cells #[.int .i64 0, .int .i64 0, .slice none 0 0] 57) := ⟨_, rfl⟩
    have hbx : Below w4.heap.size w4 w5 := by rw [hw5]; exact below_new w4 _
    have CM_5 : Hid (Cell3 w5 w4.heap.size 57 (.int .i64 0) (.int .i64 0) (.slice none 0 0)) := by show Cell3 _ _ _ _ _ _; rw [hw5]; exact heap_alloc_new w4 _
    have HW_5 := hid hw5
    have CA_5 := hid (CA_4.out.below hbx)
    have CC_5 := hid (CC_4.out.below hbx)
    have RA_5 := hid (RA_4.out.below hbx (Nat.le_refl _))
    have RB_5 := hid (RB_4.out.below hbx (Nat.le_refl _))
    have HE_5 := hid (HE_4.out.below' hbx)
    have HB_5 := hid (below_two HB_4.out hbx)
    clear CA_4 CC_4 RA_4 RB_4 HE_4 HB_4
    clear hbx
    obtain ⟨CC0, CC1, CC2⟩ := cells3 CC_5.out
    rw [hw5] at CC0 CC1 CC2
    clear hw5
    go_wp2_with fail
    rw [← show w5 = _ from HW_5.out]
    refine (narrow_calls B S w5 HE_5.out K' R' A' m' c' T' HM'.out RB_5.out).mono ?_
    rintro e w6 ⟨hb, h⟩
    have CA_6 := hid (CA_5.out.below hb)
    have CC_6 := hid (CC_5.out.below hb)
    have CM_6 := hid (CM_5.out.below hb)
    have RA_6 := hid (RA_5.out.below hb (Nat.le_refl _))
    have RB_6 := hid (RB_5.out.below hb (Nat.le_refl _))
    have HE_6 := hid (HE_5.out.below' hb)
    have HB_6 := hid (below_two HB_5.out hb)
    clear CA_5 CC_5 CM_5 RA_5 RB_5 HE_5 HB_5
    clear hb
    clear CC0 CC1 CC2
    cases hbad' : ruleBad K' R' T' with
    | some j =>
      rw [hbad'] at h
      obtain ⟨u, rfl, hc⟩ := h
      obtain ⟨ut, ua, rfl⟩ := hc.form
      have HBAD' := hid hbad'
      clear hc hbad'
      unfold zeroRule
      obtain ⟨w7, hw7⟩ : ∃ w7, w7 = w6.alloc (.cells #[.int .i64 0, .int .i64 0, .slice none 0 0] 57) := ⟨_, rfl⟩
      have hbx : Below w6.heap.size w6 w7 := by rw [hw7]; exact below_new w6 _
      have CN_7 : Hid (Cell3 w7 w6.heap.size 57 (.int .i64 0) (.int .i64 0) (.slice none 0 0)) := by show Cell3 _ _ _ _ _ _; rw [hw7]; exact heap_alloc_new w6 _
      have HW_7 := hid hw7
      have CA_7 := hid (CA_6.out.below hbx)
      have CC_7 := hid (CC_6.out.below hbx)
      have CM_7 := hid (CM_6.out.below hbx)
      have RA_7 := hid (RA_6.out.below hbx (Nat.le_refl _))
      have RB_7 := hid (RB_6.out.below hbx (Nat.le_refl _))
      have HE_7 := hid (HE_6.out.below' hbx)
      have HB_7 := hid (below_two HB_6.out hbx)
      clear CA_6 CC_6 CM_6 RA_6 RB_6 HE_6 HB_6
      clear hbx
      obtain ⟨CA0, CA1, CA2⟩ := cells3 CA_7.out
      rw [hw7] at CA0 CA1 CA2
      obtain ⟨CC0, CC1, CC2⟩ := cells3 CC_7.out
      rw [hw7] at CC0 CC1 CC2
      clear hw7
      go_wp2_with fail
      rw [← show w7 = _ from HW_7.out]
      refine (same_calls B S w7 HE_7.out K R A m c T K' R' A' m' c' T' HM.out RA_7.out HM'.out RB_7.out).mono ?_
      rintro e wf ⟨hb, h⟩
      rw [HBAD.out] at h
      obtain ⟨vf, rfl, hc⟩ := h
      obtain ⟨tf, af, rfl⟩ := hc.form
      have BF := hid (below_two HB_7.out hb)
      clear hc hb
      go_wp2_with fail
      go_ret
      exact ⟨rfl, BF.out⟩
    | none =>
      obtain ⟨R2, T2, hnb, _⟩ := narrow_rule hbad'
      rw [hbad'] at h
      obtain ⟨A2, c2, rfl, ho⟩ := h
      rw [hnb] at ho ⊢
      dsimp only at ho ⊢
      obtain ⟨m2, hm2⟩ : ∃ m2, m2 = T2.length := ⟨_, rfl⟩
      rw [← hm2] at ho ⊢
      have HM2 := hid hm2
      have RN_6 := hid (own_ri_row ho)
      clear ho hm2
      clear hbad' hnb
      obtain ⟨w7, hw7⟩ : ∃ w7, w7 = w6.alloc (.cells #[.int .i64 K', .int .i64 (R2 : Int), .slice A2 m2 c2] 57) := ⟨_, rfl⟩
      have hbx : Below w6.heap.size w6 w7 := by rw [hw7]; exact below_new w6 _
      have CN_7 : Hid (Cell3 w7 w6.heap.size 57 (.int .i64 K') (.int .i64 (R2 : Int)) (.slice A2 m2 c2)) := by show Cell3 _ _ _ _ _ _; rw [hw7]; exact heap_alloc_new w6 _
      have HW_7 := hid hw7
      have CA_7 := hid (CA_6.out.below hbx)
      have CC_7 := hid (CC_6.out.below hbx)
      have CM_7 := hid (CM_6.out.below hbx)
      have RA_7 := hid (RA_6.out.below hbx (Nat.le_refl _))
      have RB_7 := hid (RB_6.out.below hbx (Nat.le_refl _))
      have RN_7 := hid (RN_6.out.below hbx (Nat.le_refl _))
      have HE_7 := hid (HE_6.out.below' hbx)
      have HB_7 := hid (below_two HB_6.out hbx)
      clear CA_6 CC_6 CM_6 RA_6 RB_6 RN_6 HE_6 HB_6
      clear hbx
      obtain ⟨CA0, CA1, CA2⟩ := cells3 CA_7.out
      rw [hw7] at CA0 CA1 CA2
      obtain ⟨CC0, CC1, CC2⟩ := cells3 CC_7.out
      rw [hw7] at CC0 CC1 CC2
      clear hw7
      go_wp2_with fail
      rw [← show w7 = _ from HW_7.out]
      refine (same_calls B S w7 HE_7.out K R A m c T K' R' A' m' c' T' HM.out RA_7.out HM'.out RB_7.out).mono ?_
      rintro e wf ⟨hb, h⟩
      rw [HBAD.out] at h
      obtain ⟨vf, rfl, hc⟩ := h
      obtain ⟨tf, af, rfl⟩ := hc.form
      have BF := hid (below_two HB_7.out hb)
      clear hc hb
      go_wp2_with fail
      go_ret
      exact ⟨rfl, BF.out⟩
  | none =>
    obtain ⟨R1, T1, hna, hbm, him, hle, hR0, hR3⟩ := narrow_rule hbad
    rw [hbad] at h
    obtain ⟨A1, c1, rfl, ho⟩ := h
    rw [hna] at ho ⊢
    dsimp only at ho ⊢
    obtain ⟨m1, hm1⟩ : ∃ m1, m1 = T1.length := ⟨_, rfl⟩
    rw [← hm1] at ho ⊢
    have HM1 := hid hm1
    have RM_4 := hid (own_ri_row ho)
    clear ho hm1
    have HBAD := hid hbad
    have HNA := hid hna
    have HBM := hid hbm
    have HIM := hid him
    clear hbad hna hbm him
    obtain ⟨w5, hw5⟩ : ∃ w5, w5 = w4.alloc (.cells #[.int .i64 K, .int .i64 (R1 : Int), .slice A1 m1 c1] 57) := ⟨_, rfl⟩
    have hbx : Below w4.heap.size w4 w5 := by rw [hw5]; exact below_new w4 _
    have CM_5 : Hid (Cell3 w5 w4.heap.size 57 (.int .i64 K) (.int .i64 (R1 : Int)) (.slice A1 m1 c1)) := by show Cell3 _ _ _ _ _ _; rw [hw5]; exact heap_alloc_new w4 _
    have HW_5 := hid hw5
    have CA_5 := hid (CA_4.out.below hbx)
    have CC_5 := hid (CC_4.out.below hbx)
    have RA_5 := hid (RA_4.out.below hbx (Nat.le_refl _))
    have RB_5 := hid (RB_4.out.below hbx (Nat.le_refl _))
    have RM_5 := hid (RM_4.out.below hbx (Nat.le_refl _))
    have HE_5 := hid (HE_4.out.below' hbx)
    have HB_5 := hid (below_two HB_4.out hbx)
    clear CA_4 CC_4 RA_4 RB_4 RM_4 HE_4 HB_4
    clear hbx
    obtain ⟨CC0, CC1, CC2⟩ := cells3 CC_5.out
    rw [hw5] at CC0 CC1 CC2
    clear hw5
    go_wp2_with fail
    rw [← show w5 = _ from HW_5.out]
    refine (narrow_calls B S w5 HE_5.out K' R' A' m' c' T' HM'.out RB_5.out).mono ?_
    rintro e w6 ⟨hb, h⟩
    have CA_6 := hid (CA_5.out.below hb)
    have CC_6 := hid (CC_5.out.below hb)
    have CM_6 := hid (CM_5.out.below hb)
    have RA_6 := hid (RA_5.out.below hb (Nat.le_refl _))
    have RB_6 := hid (RB_5.out.below hb (Nat.le_refl _))
    have RM_6 := hid (RM_5.out.below hb (Nat.le_refl _))
    have HE_6 := hid (HE_5.out.below' hb)
    have HB_6 := hid (below_two HB_5.out hb)
    clear CA_5 CC_5 CM_5 RA_5 RB_5 RM_5 HE_5 HB_5
    clear hb
    clear CC0 CC1 CC2
    cases hbad' : ruleBad K' R' T' with
    | some j =>
      rw [hbad'] at h
      obtain ⟨u, rfl, hc⟩ := h
      obtain ⟨ut, ua, rfl⟩ := hc.form
      have HBAD' := hid hbad'
      clear hc hbad'
      unfold zeroRule
      obtain ⟨w7, hw7⟩ : ∃ w7, w7 = w6.alloc (.cells #[.int .i64 0, .int .i64 0, .slice none 0 0] 57) := ⟨_, rfl⟩
      have hbx : Below w6.heap.size w6 w7 := by rw [hw7]; exact below_new w6 _
      have CN_7 : Hid (Cell3 w7 w6.heap.size 57 (.int .i64 0) (.int .i64 0) (.slice none 0 0)) := by show Cell3 _ _ _ _ _ _; rw [hw7]; exact heap_alloc_new w6 _
      have HW_7 := hid hw7
      have CA_7 := hid (CA_6.out.below hbx)
      have CC_7 := hid (CC_6.out.below hbx)
      have CM_7 := hid (CM_6.out.below hbx)
      have RA_7 := hid (RA_6.out.below hbx (Nat.le_refl _))
      have RB_7 := hid (RB_6.out.below hbx (Nat.le_refl _))
      have RM_7 := hid (RM_6.out.below hbx (Nat.le_refl _))
      have HE_7 := hid (HE_6.out.below' hbx)
      have HB_7 := hid (below_two HB_6.out hbx)
      clear CA_6 CC_6 CM_6 RA_6 RB_6 RM_6 HE_6 HB_6
      clear hbx
      obtain ⟨CA0, CA1, CA2⟩ := cells3 CA_7.out
      rw [hw7] at CA0 CA1 CA2
      obtain ⟨CC0, CC1, CC2⟩ := cells3 CC_7.out
      rw [hw7] at CC0 CC1 CC2
      clear hw7
      go_wp2_with fail
      rw [← show w7 = _ from HW_7.out]
      refine (same_calls B S w7 HE_7.out K R A m c T K' R' A' m' c' T' HM.out RA_7.out HM'.out RB_7.out).mono ?_
      rintro e wf ⟨hb, h⟩
      rw [HBAD.out] at h
      dsimp only at h
      rw [HBAD'.out] at h
      obtain ⟨vf, rfl, hc⟩ := h
      obtain ⟨tf, af, rfl⟩ := hc.form
      have BF := hid (below_two HB_7.out hb)
      clear hc hb
      go_wp2_with fail
      go_ret
      exact ⟨rfl, BF.out⟩
    | none =>
      obtain ⟨R2, T2, hnb, hbn, hin, _, _, _⟩ := narrow_rule hbad'
      rw [hbad'] at h
      obtain ⟨A2, c2, rfl, ho⟩ := h
      rw [hnb] at ho ⊢
      dsimp only at ho ⊢
      obtain ⟨m2, hm2⟩ : ∃ m2, m2 = T2.length := ⟨_, rfl⟩
      rw [← hm2] at ho ⊢
      have HM2 := hid hm2
      have RN_6 := hid (own_ri_row ho)
      clear ho hm2
      have HBAD' := hid hbad'
      have HNB := hid hnb
      clear hbad' hnb hbn hin
      obtain ⟨w7, hw7⟩ : ∃ w7, w7 = w6.alloc (.cells #[.int .i64 K', .int .i64 (R2 : Int), .slice A2 m2 c2] 57) := ⟨_, rfl⟩
      have hbx : Below w6.heap.size w6 w7 := by rw [hw7]; exact below_new w6 _
      have CN_7 : Hid (Cell3 w7 w6.heap.size 57 (.int .i64 K') (.int .i64 (R2 : Int)) (.slice A2 m2 c2)) := by show Cell3 _ _ _ _ _ _; rw [hw7]; exact heap_alloc_new w6 _
      have HW_7 := hid hw7
      have CA_7 := hid (CA_6.out.below hbx)
      have CC_7 := hid (CC_6.out.below hbx)
      have CM_7 := hid (CM_6.out.below hbx)
      have RA_7 := hid (RA_6.out.below hbx (Nat.le_refl _))
      have RB_7 := hid (RB_6.out.below hbx (Nat.le_refl _))
      have RM_7 := hid (RM_6.out.below hbx (Nat.le_refl _))
      have RN_7 := hid (RN_6.out.below hbx (Nat.le_refl _))
      have HE_7 := hid (HE_6.out.below' hbx)
      have HB_7 := hid (below_two HB_6.out hbx)
      clear CA_6 CC_6 CM_6 RA_6 RB_6 RM_6 RN_6 HE_6 HB_6
      clear hbx
      obtain ⟨CA0, CA1, CA2⟩ := cells3 CA_7.out
      rw [hw7] at CA0 CA1 CA2
      obtain ⟨CC0, CC1, CC2⟩ := cells3 CC_7.out
      rw [hw7] at CC0 CC1 CC2
      clear hw7
      go_wp2_with fail
      rw [← show w7 = _ from HW_7.out]
      refine (same_calls B S w7 HE_7.out K R A m c T K' R' A' m' c' T' HM.out RA_7.out HM'.out RB_7.out).mono ?_
      rintro e w8 ⟨hb, h⟩
      rw [HBAD.out] at h
      dsimp only at h
      rw [HBAD'.out] at h
      dsimp only at h
      rw [HNA.out, HNB.out] at h
      obtain ⟨q, hq⟩ : ∃ q, q = decide (K = K' ∧ (R1, T1) = (R2, T2)) := ⟨_, rfl⟩
      rw [← hq] at h
      subst h
      have HQ : Hid (decide (K = K' ∧ (R1 : Int) = (R2 : Int) ∧ T1 = T2) = q) := by show _ = _; rw [hq]; exact decide_eq_decide.2 (by simp only [Prod.mk.injEq, Int.ofNat_inj])
      clear hq
      have CA_8 := hid (CA_7.out.below hb)
      have CC_8 := hid (CC_7.out.below hb)
      have CM_8 := hid (CM_7.out.below hb)
      have CN_8 := hid (CN_7.out.below hb)
      have RA_8 := hid (RA_7.out.below hb (Nat.le_refl _))
      have RB_8 := hid (RB_7.out.below hb (Nat.le_refl _))
      have RM_8 := hid (RM_7.out.below hb (Nat.le_refl _))
      have RN_8 := hid (RN_7.out.below hb (Nat.le_refl _))
      have HE_8 := hid (HE_7.out.below' hb)
      have HB_8 := hid (below_two HB_7.out hb)
      clear CA_7 CC_7 CM_7 CN_7 RA_7 RB_7 RM_7 RN_7 HE_7 HB_7
      clear hb
      clear CA0 CA1 CA2 CC0 CC1 CC2
      obtain ⟨CA0, CA1, CA2⟩ := cells3 CA_8.out
      obtain ⟨CM0, CM1, CM2⟩ := cells3 CM_8.out
      go_wp2_with fail
      refine (same_calls B S w8 HE_8.out K R A m c T K (R1 : Int) A1 m1 c1 T1 HM.out RA_8.out HM1.out RM_8.out).mono ?_
      rintro e w9 ⟨hb, h⟩
      rw [HBAD.out] at h
      dsimp only at h
      rw [HBM.out] at h
      dsimp only at h
      rw [Int.toNat_natCast, HNA.out, HIM.out, show decide (K = K ∧ (R1, T1) = (R1, T1)) = true from decide_eq_true ⟨rfl, rfl⟩] at h
      subst h
      have CA_9 := hid (CA_8.out.below hb)
      have CC_9 := hid (CC_8.out.below hb)
      have CM_9 := hid (CM_8.out.below hb)
      have CN_9 := hid (CN_8.out.below hb)
      have RA_9 := hid (RA_8.out.below hb (Nat.le_refl _))
      have RB_9 := hid (RB_8.out.below hb (Nat.le_refl _))
      have RM_9 := hid (RM_8.out.below hb (Nat.le_refl _))
      have RN_9 := hid (RN_8.out.below hb (Nat.le_refl _))
      have HE_9 := hid (HE_8.out.below' hb)
      have HB_9 := hid (below_two HB_8.out hb)
      clear CA_8 CC_8 CM_8 CN_8 RA_8 RB_8 RM_8 RN_8 HE_8 HB_8
      clear hb
      clear CA0 CA1 CA2 CM0 CM1 CM2
      obtain ⟨CM0, CM1, CM2⟩ := cells3 CM_9.out
      go_wp2_with fail
      refine (narrow_calls B S w9 HE_9.out K (R1 : Int) A1 m1 c1 T1 HM1.out RM_9.out).mono ?_
      rintro e w10 ⟨hb, h⟩
      have CA_10 := hid (CA_9.out.below hb)
      have CC_10 := hid (CC_9.out.below hb)
      have CM_10 := hid (CM_9.out.below hb)
      have CN_10 := hid (CN_9.out.below hb)
      have RA_10 := hid (RA_9.out.below hb (Nat.le_refl _))
      have RB_10 := hid (RB_9.out.below hb (Nat.le_refl _))
      have RM_10 := hid (RM_9.out.below hb (Nat.le_refl _))
      have RN_10 := hid (RN_9.out.below hb (Nat.le_refl _))
      have HE_10 := hid (HE_9.out.below' hb)
      have HB_10 := hid (below_two HB_9.out hb)
      clear CA_9 CC_9 CM_9 CN_9 RA_9 RB_9 RM_9 RN_9 HE_9 HB_9
      clear hb
      clear CM0 CM1 CM2
      rw [HBM.out] at h
      dsimp only at h
      rw [Int.toNat_natCast] at h
      obtain ⟨A3, c3, rfl, ho⟩ := h
      rw [HIM.out] at ho ⊢
      dsimp only at ho ⊢
      obtain ⟨m3, hm3⟩ : ∃ m3, m3 = T1.length := ⟨_, rfl⟩
      rw [← hm3] at ho ⊢
      have HM3 := hid hm3
      have RS_10 := hid (own_ri_row ho)
      clear ho hm3
      obtain ⟨w11, hw11⟩ : ∃ w11, w11 = w10.alloc (.cells #[.int .i64 K, .int .i64 (R1 : Int), .slice A3 m3 c3] 57) := ⟨_, rfl⟩
      have hbx : Below w10.heap.size w10 w11 := by rw [hw11]; exact below_new w10 _
      have CS_11 : Hid (Cell3 w11 w10.heap.size 57 (.int .i64 K) (.int .i64 (R1 : Int)) (.slice A3 m3 c3)) := by show Cell3 _ _ _ _ _ _; rw [hw11]; exact heap_alloc_new w10 _
      have HW_11 := hid hw11
      have CA_11 := hid (CA_10.out.below hbx)
      have CC_11 := hid (CC_10.out.below hbx)
      have CM_11 := hid (CM_10.out.below hbx)
      have CN_11 := hid (CN_10.out.below hbx)
      have RA_11 := hid (RA_10.out.below hbx (Nat.le_refl _))
      have RB_11 := hid (RB_10.out.below hbx (Nat.le_refl _))
      have RM_11 := hid (RM_10.out.below hbx (Nat.le_refl _))
      have RN_11 := hid (RN_10.out.below hbx (Nat.le_refl _))
      have RS_11 := hid (RS_10.out.below hbx (Nat.le_refl _))
      have HE_11 := hid (HE_10.out.below' hbx)
      have HB_11 := hid (below_two HB_10.out hbx)
      clear CA_10 CC_10 CM_10 CN_10 RA_10 RB_10 RM_10 RN_10 RS_10 HE_10 HB_10
      clear hbx
      obtain ⟨CM0, CM1, CM2⟩ := cells3 CM_11.out
      rw [hw11] at CM0 CM1 CM2
      obtain ⟨CN0, CN1, CN2⟩ := cells3 CN_11.out
      rw [hw11] at CN0 CN1 CN2
      clear hw11
      go_wp2_with fail
      rw [← show w11 = _ from HW_11.out]
      refine (rawRules_calls w11 K (R1 : Int) A1 m1 c1 T1 K' (R2 : Int) A2 m2 c2 T2 HM1.out RM_11.out HM2.out RN_11.out).mono ?_
      rintro e w12 ⟨rfl, hb⟩
      rw [HQ.out]
      have CA_12 := hid (CA_11.out.below hb)
      have CC_12 := hid (CC_11.out.below hb)
      have CM_12 := hid (CM_11.out.below hb)
      have CN_12 := hid (CN_11.out.below hb)
      have CS_12 := hid (CS_11.out.below hb)
      have RA_12 := hid (RA_11.out.below hb (Nat.le_refl _))
      have RB_12 := hid (RB_11.out.below hb (Nat.le_refl _))
      have RM_12 := hid (RM_11.out.below hb (Nat.le_refl _))
      have RN_12 := hid (RN_11.out.below hb (Nat.le_refl _))
      have RS_12 := hid (RS_11.out.below hb (Nat.le_refl _))
      have HE_12 := hid (HE_11.out.below' hb)
      have HB_12 := hid (below_two HB_11.out hb)
      clear CA_11 CC_11 CM_11 CN_11 CS_11 RA_11 RB_11 RM_11 RN_11 RS_11 HE_11 HB_11
      clear hb
      clear CM0 CM1 CM2 CN0 CN1 CN2
      obtain ⟨CM0, CM1, CM2⟩ := cells3 CM_12.out
      obtain ⟨CS0, CS1, CS2⟩ := cells3 CS_12.out
      go_wp2_with fail
      refine (rawRules_calls w12 K (R1 : Int) A3 m3 c3 T1 K (R1 : Int) A1 m1 c1 T1 HM3.out RS_12.out HM1.out RM_12.out).mono ?_
      rintro e w13 ⟨rfl, hb⟩
      rw [show decide (K = K ∧ (R1 : Int) = (R1 : Int) ∧ T1 = T1) = true from decide_eq_true ⟨rfl, rfl, rfl⟩]
      have CA_13 := hid (CA_12.out.below hb)
      have CC_13 := hid (CC_12.out.below hb)
      have CM_13 := hid (CM_12.out.below hb)
      have CN_13 := hid (CN_12.out.below hb)
      have CS_13 := hid (CS_12.out.below hb)
      have RA_13 := hid (RA_12.out.below hb (Nat.le_refl _))
      have RB_13 := hid (RB_12.out.below hb (Nat.le_refl _))
      have RM_13 := hid (RM_12.out.below hb (Nat.le_refl _))
      have RN_13 := hid (RN_12.out.below hb (Nat.le_refl _))
      have RS_13 := hid (RS_12.out.below hb (Nat.le_refl _))
      have HE_13 := hid (HE_12.out.below' hb)
      have HB_13 := hid (below_two HB_12.out hb)
      clear CA_12 CC_12 CM_12 CN_12 CS_12 RA_12 RB_12 RM_12 RN_12 RS_12 HE_12 HB_12
      clear hb
      clear CM0 CM1 CM2 CS0 CS1 CS2
      obtain ⟨CA0, CA1, CA2⟩ := cells3 CA_13.out
      obtain ⟨CM0, CM1, CM2⟩ := cells3 CM_13.out
      obtain ⟨y, hy, ey⟩ := mod_nat n 4 (by decide) (by decide)
      obtain ⟨X, hX⟩ : ∃ X, X = R + (y : Int) := ⟨_, rfl⟩
      have eX : wrap64 (R + (y : Int)) = X := by rw [hX]; exact IntWalk.wrap64_in _ (by omega)
      have hRX : R ≤ X := by omega
      clear hX hy
      have hgt : ¬ R < (R1 : Int) := by omega
      go_wp2_with fail
      refine (widen_calls B S w13 HE_13.out K R X A m c T HM.out RA_13.out).mono ?_
      rintro e w14 ⟨hb, h⟩
      rw [HBAD.out] at h
      dsimp only at h
      have CA_14 := hid (CA_13.out.below hb)
      have CC_14 := hid (CC_13.out.below hb)
      have CM_14 := hid (CM_13.out.below hb)
      have CN_14 := hid (CN_13.out.below hb)
      have CS_14 := hid (CS_13.out.below hb)
      have RA_14 := hid (RA_13.out.below hb (Nat.le_refl _))
      have RB_14 := hid (RB_13.out.below hb (Nat.le_refl _))
      have RM_14 := hid (RM_13.out.below hb (Nat.le_refl _))
      have RN_14 := hid (RN_13.out.below hb (Nat.le_refl _))
      have RS_14 := hid (RS_13.out.below hb (Nat.le_refl _))
      have HE_14 := hid (HE_13.out.below' hb)
      have HB_14 := hid (below_two HB_13.out hb)
      clear CA_13 CC_13 CM_13 CN_13 CS_13 RA_13 RB_13 RM_13 RN_13 RS_13 HE_13 HB_13
      clear hb
      clear CA0 CA1 CA2 CM0 CM1 CM2
      by_cases h3 : 3 < X
      · rw [if_pos (.inr h3)] at h
        obtain ⟨v, rfl, hc⟩ := h
        obtain ⟨tv, av, rfl⟩ := hc.form
        unfold zeroRule
        obtain ⟨w15, hw15⟩ : ∃ w15, w15 = w14.alloc (.cells #[.int .i64 0, .int .i64 0, .slice none 0 0] 57) := ⟨_, rfl⟩
        have hbx : Below w14.heap.size w14 w15 := by rw [hw15]; exact below_new w14 _
        have CX_15 : Hid (Cell3 w15 w14.heap.size 57 (.int .i64 0) (.int .i64 0) (.slice none 0 0)) := by show Cell3 _ _ _ _ _ _; rw [hw15]; exact heap_alloc_new w14 _
        have HW_15 := hid hw15
        have CA_15 := hid (CA_14.out.below hbx)
        have CC_15 := hid (CC_14.out.below hbx)
        have CM_15 := hid (CM_14.out.below hbx)
        have CN_15 := hid (CN_14.out.below hbx)
        have CS_15 := hid (CS_14.out.below hbx)
        have RA_15 := hid (RA_14.out.below hbx (Nat.le_refl _))
        have RB_15 := hid (RB_14.out.below hbx (Nat.le_refl _))
        have RM_15 := hid (RM_14.out.below hbx (Nat.le_refl _))
        have RN_15 := hid (RN_14.out.below hbx (Nat.le_refl _))
        have RS_15 := hid (RS_14.out.below hbx (Nat.le_refl _))
        have HE_15 := hid (HE_14.out.below' hbx)
        have HB_15 := hid (below_two HB_14.out hbx)
        clear CA_14 CC_14 CM_14 CN_14 CS_14 RA_14 RB_14 RM_14 RN_14 RS_14 HE_14 HB_14
        clear hbx
        have HC := hid (Chain.below (show Below w14.heap.size w14 w15 by rw [hw15]; exact below_new w14 _) hc)
        obtain ⟨CX0, CX1, CX2⟩ := cells3 CX_15.out
        rw [hw15] at CX0 CX1 CX2
        clear hw15
        clear hc
        go_wp2_with fail
        rw [← show w15 = _ from HW_15.out]
        refine (rawNew_calls w15 _ _ _).mono ?_
        rintro e w16 ⟨vn, rfl, hn, hb⟩
        have HC2 := hid (Chain.below hb HC.out)
        obtain ⟨ga, gb, rfl, hga, hgb⟩ := hn
        have HERR : Hid (ErrVal w16 0 (.agg #[.int .i64 3, ga, gb]) 3 [(opForms, 0)]) := ⟨_, _, rfl, own_base hga (Nat.zero_le _), own_base hgb (Nat.zero_le _)⟩
        clear hga hgb
        have CA_16 := hid (CA_15.out.below hb)
        have CC_16 := hid (CC_15.out.below hb)
        have CM_16 := hid (CM_15.out.below hb)
        have CN_16 := hid (CN_15.out.below hb)
        have CS_16 := hid (CS_15.out.below hb)
        have CX_16 := hid (CX_15.out.below hb)
        have RA_16 := hid (RA_15.out.below hb (Nat.le_refl _))
        have RB_16 := hid (RB_15.out.below hb (Nat.le_refl _))
        have RM_16 := hid (RM_15.out.below hb (Nat.le_refl _))
        have RN_16 := hid (RN_15.out.below hb (Nat.le_refl _))
        have RS_16 := hid (RS_15.out.below hb (Nat.le_refl _))
        have HE_16 := hid (HE_15.out.below' hb)
        have HB_16 := hid (below_two HB_15.out hb)
        clear CA_15 CC_15 CM_15 CN_15 CS_15 CX_15 RA_15 RB_15 RM_15 RN_15 RS_15 HE_15 HB_15
        clear hb
        go_wp2_with fail
        refine (rawIs_err B S w16 HE_16.out _ 3 _ HC2.out (by decide) _ HERR.out (by simp)).mono ?_
        rintro e w17 ⟨rfl, hb⟩
        have BF := hid (below_two HB_16.out hb)
        clear hb
        go_wp2_with fail
        go_ret
        exact ⟨rfl, BF.out⟩
      · rw [if_neg (by omega)] at h
        obtain ⟨hbx, hnx⟩ := widen_rule HBAD.out X hRX (by omega)
        obtain ⟨A4, c4, rfl, ho⟩ := h
        obtain ⟨T4, hT4⟩ : ∃ T4, T4 = widenT K.toNat R.toNat X.toNat T := ⟨_, rfl⟩
        rw [← hT4] at ho hbx hnx ⊢
        obtain ⟨m4, hm4⟩ : ∃ m4, m4 = T4.length := ⟨_, rfl⟩
        rw [← hm4] at ho ⊢
        have HM4 := hid hm4
        have RX_14 := hid (own_ri_row ho)
        have HBX := hid hbx
        have HNX := hid (hnx.trans HNA.out)
        clear ho hm4 hbx hnx hT4
        obtain ⟨w15, hw15⟩ : ∃ w15, w15 = w14.alloc (.cells #[.int .i64 K, .int .i64 X, .slice A4 m4 c4] 57) := ⟨_, rfl⟩
        have hbx : Below w14.heap.size w14 w15 := by rw [hw15]; exact below_new w14 _
        have CX_15 : Hid (Cell3 w15 w14.heap.size 57 (.int .i64 K) (.int .i64 X) (.slice A4 m4 c4)) := by show Cell3 _ _ _ _ _ _; rw [hw15]; exact heap_alloc_new w14 _
        have HW_15 := hid hw15
        have CA_15 := hid (CA_14.out.below hbx)
        have CC_15 := hid (CC_14.out.below hbx)
        have CM_15 := hid (CM_14.out.below hbx)
        have CN_15 := hid (CN_14.out.below hbx)
        have CS_15 := hid (CS_14.out.below hbx)
        have RA_15 := hid (RA_14.out.below hbx (Nat.le_refl _))
        have RB_15 := hid (RB_14.out.below hbx (Nat.le_refl _))
        have RM_15 := hid (RM_14.out.below hbx (Nat.le_refl _))
        have RN_15 := hid (RN_14.out.below hbx (Nat.le_refl _))
        have RS_15 := hid (RS_14.out.below hbx (Nat.le_refl _))
        have RX_15 := hid (RX_14.out.below hbx (Nat.le_refl _))
        have HE_15 := hid (HE_14.out.below' hbx)
        have HB_15 := hid (below_two HB_14.out hbx)
        clear CA_14 CC_14 CM_14 CN_14 CS_14 RA_14 RB_14 RM_14 RN_14 RS_14 RX_14 HE_14 HB_14
        clear hbx
        obtain ⟨CX0, CX1, CX2⟩ := cells3 CX_15.out
        rw [hw15] at CX0 CX1 CX2
        clear hw15
        go_wp2_with fail
        rw [← show w15 = _ from HW_15.out]
        refine (narrow_calls B S w15 HE_15.out K X A4 m4 c4 T4 HM4.out RX_15.out).mono ?_
        rintro e w16 ⟨hb, h⟩
        have CA_16 := hid (CA_15.out.below hb)
        have CC_16 := hid (CC_15.out.below hb)
        have CM_16 := hid (CM_15.out.below hb)
        have CN_16 := hid (CN_15.out.below hb)
        have CS_16 := hid (CS_15.out.below hb)
        have CX_16 := hid (CX_15.out.below hb)
        have RA_16 := hid (RA_15.out.below hb (Nat.le_refl _))
        have RB_16 := hid (RB_15.out.below hb (Nat.le_refl _))
        have RM_16 := hid (RM_15.out.below hb (Nat.le_refl _))
        have RN_16 := hid (RN_15.out.below hb (Nat.le_refl _))
        have RS_16 := hid (RS_15.out.below hb (Nat.le_refl _))
        have RX_16 := hid (RX_15.out.below hb (Nat.le_refl _))
        have HE_16 := hid (HE_15.out.below' hb)
        have HB_16 := hid (below_two HB_15.out hb)
        clear CA_15 CC_15 CM_15 CN_15 CS_15 CX_15 RA_15 RB_15 RM_15 RN_15 RS_15 RX_15 HE_15 HB_15
        clear hb
        clear CX0 CX1 CX2
        rw [HBX.out] at h
        dsimp only at h
        obtain ⟨A5, c5, rfl, ho⟩ := h
        rw [HNX.out] at ho ⊢
        dsimp only at ho ⊢
        obtain ⟨m5, hm5⟩ : ∃ m5, m5 = T1.length := ⟨_, rfl⟩
        rw [← hm5] at ho ⊢
        have HM5 := hid hm5
        have RY_16 := hid (own_ri_row ho)
        clear ho hm5
        obtain ⟨w17, hw17⟩ : ∃ w17, w17 = w16.alloc (.cells #[.int .i64 K, .int .i64 (R1 : Int), .slice A5 m5 c5] 57) := ⟨_, rfl⟩
        have hbx : Below w16.heap.size w16 w17 := by rw [hw17]; exact below_new w16 _
        have CY_17 : Hid (Cell3 w17 w16.heap.size 57 (.int .i64 K) (.int .i64 (R1 : Int)) (.slice A5 m5 c5)) := by show Cell3 _ _ _ _ _ _; rw [hw17]; exact heap_alloc_new w16 _
        have HW_17 := hid hw17
        have CA_17 := hid (CA_16.out.below hbx)
        have CC_17 := hid (CC_16.out.below hbx)
        have CM_17 := hid (CM_16.out.below hbx)
        have CN_17 := hid (CN_16.out.below hbx)
        have CS_17 := hid (CS_16.out.below hbx)
        have CX_17 := hid (CX_16.out.below hbx)
        have RA_17 := hid (RA_16.out.below hbx (Nat.le_refl _))
        have RB_17 := hid (RB_16.out.below hbx (Nat.le_refl _))
        have RM_17 := hid (RM_16.out.below hbx (Nat.le_refl _))
        have RN_17 := hid (RN_16.out.below hbx (Nat.le_refl _))
        have RS_17 := hid (RS_16.out.below hbx (Nat.le_refl _))
        have RX_17 := hid (RX_16.out.below hbx (Nat.le_refl _))
        have RY_17 := hid (RY_16.out.below hbx (Nat.le_refl _))
        have HE_17 := hid (HE_16.out.below' hbx)
        have HB_17 := hid (below_two HB_16.out hbx)
        clear CA_16 CC_16 CM_16 CN_16 CS_16 CX_16 RA_16 RB_16 RM_16 RN_16 RS_16 RX_16 RY_16 HE_16 HB_16
        clear hbx
        obtain ⟨CX0, CX1, CX2⟩ := cells3 CX_17.out
        rw [hw17] at CX0 CX1 CX2
        obtain ⟨CY0, CY1, CY2⟩ := cells3 CY_17.out
        rw [hw17] at CY0 CY1 CY2
        obtain ⟨CM0, CM1, CM2⟩ := cells3 CM_17.out
        rw [hw17] at CM0 CM1 CM2
        clear hw17
        go_wp2_with fail
        rw [← show w17 = _ from HW_17.out]
        refine (rawRules_calls w17 K (R1 : Int) A5 m5 c5 T1 K (R1 : Int) A1 m1 c1 T1 HM5.out RY_17.out HM1.out RM_17.out).mono ?_
        rintro e w18 ⟨rfl, hb⟩
        rw [show decide (K = K ∧ (R1 : Int) = (R1 : Int) ∧ T1 = T1) = true from decide_eq_true ⟨rfl, rfl, rfl⟩]
        have BF := hid (below_two HB_17.out hb)
        clear hb
        go_wp2_with fail
        go_ret
        exact ⟨rfl, BF.out⟩
end Go.Proofs.YtapebbejdgeijaaDoor
