/- package forms: Widen, Same; edenraw.Rules. -/
import Derived.Test.YtapebbejdgeijaaDoorFormG
namespace Go.Proofs.YtapebbejdgeijaaDoor
open Go.RowKit Go.Extern.Stop Go.Stop Go.Extern Go.Deep

def WidenPost (S : Nat → Addr) (K R X : Int) (T : List Int) (w : World) (e : Ending) (w' : World) : Prop :=
  Below w.heap.size w w' ∧ match ruleBad K R T with
  | none => if X < R ∨ 3 < X then ∃ v, e = .returned (.tuple #[zeroRule, v]) ∧ Chain S w' v (rootIx 3) [(opForms, 0)]
    else ∃ A c, e = .returned (.tuple #[.agg #[.int .i64 K, .int .i64 X, .slice A (widenT K.toNat R.toNat X.toNat T).length c], .nilIface]) ∧ w'.ownsRow w.heap.size 3 1 (.slice A (widenT K.toNat R.toNat X.toNat T).length c) (widenT K.toNat R.toNat X.toNat T).length ((widenT K.toNat R.toNat X.toNat T).map (Value.int .i64))
  | some i => ∃ v, e = .returned (.tuple #[zeroRule, v]) ∧ Chain S w' v (rootIx 1) [(opForms, 0), (opRule, i)]

set_option maxRecDepth 100000 in
theorem widen_calls (B : Nat) (S : Nat → Addr) (w : World) (hE : Env B S w) (K R X : Int) (A : Option Addr) (m c : Nat) (T : List Int) (hm : m = T.length) (hr : RI w .i64 A T) :
    Calls Tryd.prog 25 #[.agg #[.int .i64 K, .int .i64 R, .slice A m c], .int .i64 X] w (WidenPost S K R X T w) := by
  obtain ⟨w1, hw1⟩ : ∃ w1, w1 = w.alloc (.cells #[.int .i64 K, .int .i64 R, .slice A m c] 57) := ⟨_, rfl⟩
  obtain ⟨w2, hw2⟩ : ∃ w2, w2 = w1.alloc (.cells #[.int .i64 0, .int .i64 0, .slice none 0 0] 57) := ⟨_, rfl⟩
  have s1 : w1.heap.size = w.heap.size + 1 := by rw [hw1, World.size_alloc]
  have b1 : Below w.heap.size w w1 := by rw [hw1]; exact below_new w _
  have b2 : Below w1.heap.size w1 w2 := by rw [hw2]; exact below_new w1 _
  have b12 := below_then b1 b2 b1.size
  have c1 : Cell3 w1 w.heap.size 57 (.int .i64 K) (.int .i64 R) (.slice A m c) := by rw [hw1]; exact heap_alloc_new w _
  have c2 : Cell3 w2 (w.heap.size + 1) 57 (.int .i64 0) (.int .i64 0) (.slice none 0 0) := by rw [hw2, ← s1]; exact heap_alloc_new w1 _
  have c12 := c1.below b2
  obtain ⟨k0, k1, k2⟩ := cells3 c12
  have B12 := hid b12
  have C12 := hid c12
  have C22 := hid c2
  have HR2 := hid (hr.below b12 (Nat.le_refl _))
  have HE2 := hid ((hE.below' b1).below' b2)
  have HM := hid hm
  rw [hw2, hw1] at k0 k1 k2
  have HW : Hid (w2 = (w.alloc (.cells #[.int .i64 K, .int .i64 R, .slice A m c] 57)).alloc (.cells #[.int .i64 0, .int .i64 0, .slice none 0 0] 57)) := by
    show _ = _
    rw [hw2, hw1]
  clear hw1 hw2 b1 b2 b12 c1 c2 c12 hr hm s1 hE
  go_enter Tryd.func25, Tryd.ntmps25
  go_wp2_with fail
  rw [← show w2 = _ from HW.out]
  refine (fCheck_calls B S w2 HE2.out 0 K R A m c T HM.out HR2.out).mono ?_
  rintro e w3 ⟨hb, h⟩
  have HB3 := hid (below_then B12.out hb B12.out.size)
  have C13 := hid (C12.out.below hb)
  have C23 := hid (C22.out.below hb)
  have HR3 := hid (HR2.out.below hb (Nat.le_refl _))
  have HE3 := hid (HE2.out.below' hb)
  clear hb k0 k1 k2
  cases hbad : ruleBad K R T with
  | some i =>
    rw [hbad] at h
    obtain ⟨v, rfl, hc⟩ := h
    obtain ⟨t, a, rfl⟩ := hc.form
    have HC := hid hc
    have HBAD := hid hbad
    obtain ⟨c0, f0, c1, f1, c2, f2, r0, r1, r2⟩ := C23.out.facts (.int .i64 0) (.int .i64 0) (.slice none 0 0)
    clear hc hbad
    go_wp2_with fail
    refine bodyPost_ret (v := .tuple #[zeroRule, .iface t (.pointer (some a))]) (by simp [results, Tryd.results25, go_sem, r0, r1, r2, zeroRule]) rfl ?_
    refine ⟨set3_below (x' := .int .i64 0) (y' := .int .i64 0) (z' := .slice none 0 0) HB3.out (Nat.le_succ _), ?_⟩
    rw [HBAD.out]
    exact ⟨_, rfl, Chain.only C23.out (by decide) set3_same HC.out⟩
  | none =>
    rw [hbad] at h
    obtain rfl := h
    have HBAD := hid hbad
    obtain ⟨k0, k1, k2⟩ := cells3 C13.out
    by_cases hX : X < R ∨ 3 < X
    · have HX := hid hX
      rcases (show X < R ∨ (R ≤ X ∧ 3 < X) by omega) with h1 | ⟨h1, h2⟩
      all_goals
        clear hbad hX
        go_wp2_with fail
        refine (fWrong_calls B S w3 HE3.out 0 3 (by decide)).mono ?_
        rintro e w4 ⟨v, rfl, hc, hb⟩
        obtain ⟨t, a, rfl⟩ := hc.form
        have HC := hid hc
        have HB4 := hid (below_then HB3.out hb HB3.out.size)
        have C24 := hid (C23.out.below hb)
        obtain ⟨c0, f0, c1, f1, c2, f2, r0, r1, r2⟩ := C24.out.facts (.int .i64 0) (.int .i64 0) (.slice none 0 0)
        clear hc hb
        go_wp2_with fail
        refine bodyPost_ret (v := .tuple #[zeroRule, .iface t (.pointer (some a))]) (by simp [results, Tryd.results25, go_sem, r0, r1, r2, zeroRule]) rfl ?_
        refine ⟨set3_below (x' := .int .i64 0) (y' := .int .i64 0) (z' := .slice none 0 0) HB4.out (Nat.le_succ _), ?_⟩
        rw [HBAD.out]
        show if _ then _ else _
        rw [if_pos HX.out]
        exact ⟨_, rfl, Chain.only C24.out (by decide) set3_same HC.out⟩
    · obtain ⟨k, r, rfl, rfl, hk1, hk4, hr3, hTl, _⟩ := ruleBad_none hbad
      obtain ⟨x, rfl⟩ : ∃ x : Nat, X = x := ⟨X.toNat, by omega⟩
      have HTL := hid hTl
      have HX := hid hX
      have hx3 : x ≤ 3 := by omega
      have hrx : r ≤ x := by omega
      clear hbad hTl hX
      go_wp2_with fail
      refine (widened_calls w3 k r x hk1 hk4 hrx hx3 A m c T HM.out HTL.out HR3.out).mono ?_
      rintro e w4 ⟨A4, c4, rfl, ho, hb⟩
      have HB4 := hid (below_then HB3.out hb HB3.out.size)
      have C24 := hid (C23.out.below hb)
      have HO4 := hid (own_base ho HB3.out.size)
      clear ho hb k0 k1 k2
      obtain ⟨c0, f0, c1, f1, c2, f2, r0, r1, r2⟩ := C24.out.facts (.int .i64 k) (.int .i64 x) (.slice A4 (widenT k r x T).length c4)
      go_wp2_with fail
      refine bodyPost_ret (v := .tuple #[.agg #[.int .i64 k, .int .i64 x, .slice A4 (widenT k r x T).length c4], .nilIface]) (by simp [results, Tryd.results25, go_sem, r0, r1, r2]) rfl ?_
      refine ⟨set3_below (x' := .int .i64 k) (y' := .int .i64 x) (z' := .slice A4 (widenT k r x T).length c4) HB4.out (Nat.le_succ _), ?_⟩
      rw [HBAD.out]
      show if _ then _ else _
      rw [if_neg HX.out, Int.toNat_natCast, Int.toNat_natCast, Int.toNat_natCast]
      exact ⟨A4, c4, rfl, own_keep HO4.out _ (own_not_block HO4.out C24.out (by decide)) set3_same⟩
end Go.Proofs.YtapebbejdgeijaaDoor
