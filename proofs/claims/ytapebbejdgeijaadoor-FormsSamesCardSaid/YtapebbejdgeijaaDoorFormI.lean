/- package forms: Same; edenraw.Rules. -/
import Derived.Test.YtapebbejdgeijaaDoorFormH
namespace Go.Proofs.YtapebbejdgeijaaDoor
open Go.RowKit Go.Extern.Stop Go.Stop Go.Extern Go.Deep

theorem rawInts_at (w : World) (A A' : Option Addr) (m m' c c' : Nat) (xs ys : List Int) (hm : m = xs.length) (hm' : m' = ys.length) (hx : RI w .i64 A xs) (hy : RI w .i64 A' ys) :
    Calls Tryd.prog 20 #[.slice A m c, .slice A' m' c'] w fun e w' => e = .returned (.bool (decide (xs = ys))) ∧ ∃ n, w' = w.drewN n := by
  subst hm hm'
  exact rawInts_calls w A A' c c' xs ys hx hy

set_option maxRecDepth 100000 in
theorem rawRules_calls (w : World) (K R : Int) (A : Option Addr) (m c : Nat) (T : List Int) (K' R' : Int) (A' : Option Addr) (m' c' : Nat) (T' : List Int) (hm : m = T.length) (hr : RI w .i64 A T) (hm' : m' = T'.length) (hr' : RI w .i64 A' T') :
    Calls Tryd.prog 24 #[.agg #[.int .i64 K, .int .i64 R, .slice A m c], .agg #[.int .i64 K', .int .i64 R', .slice A' m' c']] w fun e w' => e = .returned (.bool (decide (K = K' ∧ R = R' ∧ T = T'))) ∧ Below w.heap.size w w' := by
  obtain ⟨w1, hw1⟩ : ∃ w1, w1 = w.alloc (.cells #[.int .i64 K, .int .i64 R, .slice A m c] 57) := ⟨_, rfl⟩
  obtain ⟨w2, hw2⟩ : ∃ w2, w2 = w1.alloc (.cells #[.int .i64 K', .int .i64 R', .slice A' m' c'] 57) := ⟨_, rfl⟩
  have s1 : w1.heap.size = w.heap.size + 1 := by rw [hw1, World.size_alloc]
  have b1 : Below w.heap.size w w1 := by rw [hw1]; exact below_new w _
  have b2 : Below w1.heap.size w1 w2 := by rw [hw2]; exact below_new w1 _
  have B12 := hid (below_then b1 b2 b1.size)
  have c1 : Cell3 w1 w.heap.size 57 (.int .i64 K) (.int .i64 R) (.slice A m c) := by rw [hw1]; exact heap_alloc_new w _
  have c2 : Cell3 w2 (w.heap.size + 1) 57 (.int .i64 K') (.int .i64 R') (.slice A' m' c') := by rw [hw2, ← s1]; exact heap_alloc_new w1 _
  obtain ⟨k0, k1, k2⟩ := cells3 (c1.below b2)
  obtain ⟨j0, j1, j2⟩ := cells3 c2
  have HR := hid (hr.below B12.out (Nat.le_refl _))
  have HR' := hid (hr'.below B12.out (Nat.le_refl _))
  have HM := hid hm
  have HM' := hid hm'
  rw [hw2, hw1] at k0 k1 k2 j0 j1 j2
  have HW : Hid (w2 = (w.alloc (.cells #[.int .i64 K, .int .i64 R, .slice A m c] 57)).alloc (.cells #[.int .i64 K', .int .i64 R', .slice A' m' c'] 57)) := by
    show _ = _
    rw [hw2, hw1]
  clear hw1 hw2 b1 b2 c1 c2 hr hr' hm hm' s1
  by_cases hK : K = K'
  · subst hK
    by_cases hR : R = R'
    · subst hR
      go_enter Tryd.func24, Tryd.ntmps24
      go_wp2_with fail
      rw [← show w2 = _ from HW.out]
      refine (rawInts_at w2 A A' m m' c c' T T' HM.out HM'.out HR.out HR'.out).mono ?_
      rintro e w3 ⟨rfl, nd, rfl⟩
      go_wp2_with fail
      go_ret
      exact ⟨by simp, below_drawn B12.out nd⟩
    · have hb : decide (R = R') = false := decide_eq_false hR
      have hb' : (R == R') = false := by simpa using hR
      have HNR := hid hR
      clear hR
      go_enter Tryd.func24, Tryd.ntmps24
      go_wp2_with fail
      go_ret
      have := HNR.out
      exact ⟨by simp [this], HW.out ▸ B12.out⟩
  · have hb : decide (K = K') = false := decide_eq_false hK
    have hb' : (K == K') = false := by simpa using hK
    have HNK := hid hK
    clear hK
    go_enter Tryd.func24, Tryd.ntmps24
    go_wp2_with fail
    go_ret
    have := HNK.out
    exact ⟨by simp [this], HW.out ▸ B12.out⟩

def SamePost (S : Nat → Addr) (K R : Int) (T : List Int) (K' R' : Int) (T' : List Int) (w : World) (e : Ending) (w' : World) : Prop :=
  Below w.heap.size w w' ∧ match ruleBad K R T with
  | some i => ∃ v, e = .returned (.tuple #[.bool false, v]) ∧ Chain S w' v (rootIx 1) [(opForms, 0), (opRule, i)]
  | none => match ruleBad K' R' T' with
    | some i => ∃ v, e = .returned (.tuple #[.bool false, v]) ∧ Chain S w' v (rootIx 1) [(opForms, 1), (opRule, i)]
    | none => e = .returned (.tuple #[.bool (decide (K = K' ∧ narrowT K.toNat R.toNat T = narrowT K'.toNat R'.toNat T')), .nilIface])

set_option maxRecDepth 100000 in
theorem same_calls (B : Nat) (S : Nat → Addr) (w : World) (hE : Env B S w) (K R : Int) (A : Option Addr) (m c : Nat) (T : List Int) (K' R' : Int) (A' : Option Addr) (m' c' : Nat) (T' : List Int) (hm : m = T.length) (hr : RI w .i64 A T) (hm' : m' = T'.length) (hr' : RI w .i64 A' T') :
    Calls Tryd.prog 23 #[.agg #[.int .i64 K, .int .i64 R, .slice A m c], .agg #[.int .i64 K', .int .i64 R', .slice A' m' c']] w (SamePost S K R T K' R' T' w) := by
  obtain ⟨w1, hw1⟩ : ∃ w1, w1 = w.alloc (.cells #[.int .i64 K, .int .i64 R, .slice A m c] 57) := ⟨_, rfl⟩
  obtain ⟨w2, hw2⟩ : ∃ w2, w2 = w1.alloc (.cells #[.int .i64 K', .int .i64 R', .slice A' m' c'] 57) := ⟨_, rfl⟩
  have s1 : w1.heap.size = w.heap.size + 1 := by rw [hw1, World.size_alloc]
  have b1 : Below w.heap.size w w1 := by rw [hw1]; exact below_new w _
  have b2 : Below w1.heap.size w1 w2 := by rw [hw2]; exact below_new w1 _
  have B12 := hid (below_then b1 b2 b1.size)
  have c1 : Cell3 w1 w.heap.size 57 (.int .i64 K) (.int .i64 R) (.slice A m c) := by rw [hw1]; exact heap_alloc_new w _
  have c2 : Cell3 w2 (w.heap.size + 1) 57 (.int .i64 K') (.int .i64 R') (.slice A' m' c') := by rw [hw2, ← s1]; exact heap_alloc_new w1 _
  obtain ⟨k0, k1, k2⟩ := cells3 (c1.below b2)
  have C2 := hid c2
  have HE2 := hid ((hE.below' b1).below' b2)
  have HR := hid (hr.below B12.out (Nat.le_refl _))
  have HR' := hid (hr'.below B12.out (Nat.le_refl _))
  have HM := hid hm
  have HM' := hid hm'
  rw [hw2, hw1] at k0 k1 k2
  have HW : Hid (w2 = (w.alloc (.cells #[.int .i64 K, .int .i64 R, .slice A m c] 57)).alloc (.cells #[.int .i64 K', .int .i64 R', .slice A' m' c'] 57)) := by
    show _ = _
    rw [hw2, hw1]
  clear hw1 hw2 b1 b2 c1 c2 hr hr' hm hm' s1 hE
  go_enter Tryd.func23, Tryd.ntmps23
  go_wp2_with fail
  rw [← show w2 = _ from HW.out]
  refine (narrow_calls B S w2 HE2.out K R A m c T HM.out HR.out).mono ?_
  rintro e w3 ⟨hb, h⟩
  have HB3 := hid (below_then B12.out hb B12.out.size)
  have C23 := hid (C2.out.below hb)
  have HR3 := hid (HR'.out.below hb (Nat.le_refl _))
  have HE3 := hid (HE2.out.below' hb)
  clear hb k0 k1 k2
  cases hbad : ruleBad K R T with
  | some i =>
    rw [hbad] at h
    obtain ⟨v, rfl, hc⟩ := h
    obtain ⟨t, a, rfl⟩ := hc.form
    have HC := hid hc
    have HBAD := hid hbad
    have HZ := hid (Chain.below (below_new w3 (.cells #[.int .i64 0, .int .i64 0, .slice none 0 0] 57)) HC.out)
    clear hc hbad
    unfold zeroRule
    go_wp2_with fail
    go_ret2
    refine ⟨below_then HB3.out (below_new w3 _) HB3.out.size, ?_⟩
    rw [HBAD.out]
    exact ⟨_, rfl, HZ.out⟩
  | none =>
    rw [hbad] at h
    obtain ⟨A1, c1, rfl, ho1⟩ := h
    have HBAD := hid hbad
    have HO1 := hid ho1
    obtain ⟨R1, T1, hna⟩ : ∃ R1 T1, narrowT K.toNat R.toNat T = (R1, T1) := ⟨_, _, rfl⟩
    have HNA := hid hna
    rw [hna] at HO1 ⊢
    dsimp only at HO1 ⊢
    obtain ⟨m1, hm1⟩ : ∃ m1, m1 = T1.length := ⟨_, rfl⟩
    rw [← hm1] at HO1 ⊢
    have HM1 := hid hm1
    have B4 := hid (below_new w3 (.cells #[.int .i64 K, .int .i64 R1, .slice A1 m1 c1] 57))
    have X4 : Hid (Cell3 (w3.alloc (.cells #[.int .i64 K, .int .i64 R1, .slice A1 m1 c1] 57)) w3.heap.size 57 (.int .i64 K) (.int .i64 R1) (.slice A1 m1 c1)) := heap_alloc_new w3 _
    have C24 := hid (C23.out.below B4.out)
    have HR4 := hid (HR3.out.below B4.out (Nat.le_refl _))
    have HE4 := hid (HE3.out.below' B4.out)
    have HB4 := hid (below_then HB3.out B4.out HB3.out.size)
    have HO4 := hid (own_below HO1.out B4.out (Nat.le_refl _))
    obtain ⟨j0, j1, j2⟩ := cells3 C24.out
    clear hbad ho1 hna hm1
    go_wp2_with fail
    refine (fCheck_calls B S _ HE4.out 1 K' R' A' m' c' T' HM'.out HR4.out).mono ?_
    rintro e w5 ⟨hb, h⟩
    have HB5 := hid (below_then HB4.out hb HB4.out.size)
    have C25 := hid (C24.out.below hb)
    have X5 := hid (X4.out.below hb)
    have HR5 := hid (HR4.out.below hb (Nat.le_refl _))
    have HE5 := hid (HE4.out.below' hb)
    have HO5 := hid (own_below HO4.out hb (Nat.le_refl _))
    clear hb j0 j1 j2
    generalize w3.heap.size = gx at *
    cases hbad' : ruleBad K' R' T' with
    | some i =>
      rw [hbad'] at h
      obtain ⟨v, rfl, hc⟩ := h
      obtain ⟨t, a, rfl⟩ := hc.form
      have HC := hid hc
      have HBAD' := hid hbad'
      clear hc hbad'
      go_wp2_with fail
      go_ret2
      refine ⟨HB5.out, ?_⟩
      rw [HBAD.out, HBAD'.out]
      exact ⟨_, rfl, HC.out⟩
    | none =>
      rw [hbad'] at h
      obtain rfl := h
      have HBAD' := hid hbad'
      obtain ⟨j0, j1, j2⟩ := cells3 C25.out
      clear hbad'
      go_wp2_with fail
      refine (narrow_calls B S w5 HE5.out K' R' A' m' c' T' HM'.out HR5.out).mono ?_
      rintro e w6 ⟨hb, h⟩
      rw [HBAD'.out] at h
      obtain ⟨A2, c2, rfl, ho2⟩ := h
      have HO2 := hid ho2
      have HB6 := hid (below_then HB5.out hb HB5.out.size)
      have X6 := hid (X5.out.below hb)
      have HO6 := hid (own_below HO5.out hb (Nat.le_refl _))
      obtain ⟨R2, T2, hnb⟩ : ∃ R2 T2, narrowT K'.toNat R'.toNat T' = (R2, T2) := ⟨_, _, rfl⟩
      have HNB := hid hnb
      rw [hnb] at HO2 ⊢
      dsimp only at HO2 ⊢
      obtain ⟨m2, hm2⟩ : ∃ m2, m2 = T2.length := ⟨_, rfl⟩
      rw [← hm2] at HO2 ⊢
      have HM2 := hid hm2
      have B7 := hid (below_new w6 (.cells #[.int .i64 K', .int .i64 R2, .slice A2 m2 c2] 57))
      have Y7 : Hid (Cell3 (w6.alloc (.cells #[.int .i64 K', .int .i64 R2, .slice A2 m2 c2] 57)) w6.heap.size 57 (.int .i64 K') (.int .i64 R2) (.slice A2 m2 c2)) := heap_alloc_new w6 _
      have X7 := hid (X6.out.below B7.out)
      have HB7 := hid (below_then HB6.out B7.out HB6.out.size)
      have HO7 := hid (own_ri_row (own_below HO6.out B7.out (Nat.le_refl _)))
      have HP7 := hid (own_ri_row (own_below HO2.out B7.out (Nat.le_refl _)))
      obtain ⟨x0, x1, x2⟩ := cells3 X7.out
      obtain ⟨y0, y1, y2⟩ := cells3 Y7.out
      clear hb ho2 hnb hm2 j0 j1 j2
      by_cases hK : K = K'
      · subst hK
        by_cases hR : R1 = R2
        · subst hR
          go_wp2_with fail
          refine (equalI_at _ A1 A2 m1 m2 c1 c2 T1 T2 HM1.out HM2.out HO7.out HP7.out).mono ?_
          rintro e w8 ⟨rfl, nd, rfl⟩
          go_wp2_with fail
          go_ret2
          refine ⟨below_drawn HB7.out nd, ?_⟩
          rw [HBAD.out, HBAD'.out]
          show _ = _
          rw [HNA.out, HNB.out]
          simp
        · have hb : decide ((R1 : Int) = (R2 : Int)) = false := decide_eq_false (by omega)
          have hb' : ((R1 : Int) == (R2 : Int)) = false := by rw [beq_eq_false_iff_ne]; omega
          have HNE := hid hR
          clear hR
          go_wp2_with fail
          go_ret2
          refine ⟨HB7.out, ?_⟩
          rw [HBAD.out, HBAD'.out]
          show _ = _
          rw [HNA.out, HNB.out]
          have := HNE.out
          simp [this]
      · have hb : decide (K = K') = false := decide_eq_false hK
        have hb' : (K == K') = false := by simpa using hK
        have HNE := hid hK
        clear hK
        go_wp2_with fail
        go_ret2
        refine ⟨HB7.out, ?_⟩
        rw [HBAD.out, HBAD'.out]
        show _ = _
        rw [HNA.out, HNB.out]
        have := HNE.out
        simp [this]
end Go.Proofs.YtapebbejdgeijaaDoor
