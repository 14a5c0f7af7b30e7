/- package forms: wrong, check, Narrow. -/
import Derived.Test.YtapebbejdgeijaaDoorFormE
namespace Go.Proofs.YtapebbejdgeijaaDoor
open Go.RowKit Go.Extern.Stop Go.Stop Go.Extern Go.Deep

def opForms : ByteArray := ⟨#[102, 111, 114, 109, 115]⟩
theorem fWrong_calls (B : Nat) (S : Nat → Addr) (w : World) (hE : Env B S w) (at_ n : Int) (hn : (n == 0) = false) :
    Calls Tryd.prog 65 #[.int .i64 at_, .int .i64 n] w (RetErr S (rootIx n) [(opForms, at_)] w) := by
  have HE := hid hE
  clear hE
  go_enter Tryd.func65, Tryd.ntmps65
  go_wp2_with (go_at_call 80; refine (faultNew_calls B S _ HE.out _ _ _ hn).mono ?_; rintro e w' ⟨v, rfl, hc, hb⟩)
  go_ret
  exact ⟨_, rfl, hc, hb⟩

set_option maxRecDepth 100000 in
theorem fCheck_calls (B : Nat) (S : Nat → Addr) (w : World) (hE : Env B S w) (at_ K R : Int) (A : Option Addr) (m c : Nat) (T : List Int) (hm : m = T.length) (hr : RI w .i64 A T) :
    Calls Tryd.prog 61 #[.int .i64 at_, .agg #[.int .i64 K, .int .i64 R, .slice A m c]] w (CheckPost S 1 [(opForms, at_)] (ruleBad K R T) w) := by
  have HB := hid (below_new w (.cells #[.int .i64 K, .int .i64 R, .slice A m c] 57))
  have HR := hid (hr.below HB.out (Nat.le_refl _))
  have HE := hid (hE.below' HB.out)
  have HM := hid hm
  obtain ⟨k0, k1, k2⟩ := cells3 (heap_alloc_new w (.cells #[.int .i64 K, .int .i64 R, .slice A m c] 57))
  clear hr hm hE
  go_enter Tryd.func61, Tryd.ntmps61
  go_wp2_with fail
  refine (ruCheck_calls B S _ HE.out K R A m c T HM.out HR.out).mono ?_
  rintro e w1 ⟨hb, h⟩
  have HB1 := hid (below_then HB.out hb HB.out.size)
  clear hb
  cases hbad : ruleBad K R T with
  | none =>
    rw [hbad] at h
    obtain rfl := h
    have HBAD := hid hbad
    clear hbad
    go_wp2_with fail
    refine (faultUnder_nil opForms at_ w1).mono ?_
    rintro e w2 ⟨rfl, rfl⟩
    go_wp2_with fail
    go_ret
    refine ⟨HB1.out, ?_⟩
    rw [HBAD.out]
    rfl
  | some i =>
    rw [hbad] at h
    obtain ⟨v, rfl, hc⟩ := h
    obtain ⟨t, a, rfl⟩ := hc.form
    have HC := hid hc
    have HBAD := hid hbad
    clear hc hbad
    go_wp2_with fail
    refine (faultUnder_calls S w1 opForms at_ _ _ _ HC.out).mono ?_
    rintro e w2 ⟨v2, rfl, hc2, hb2⟩
    obtain ⟨t2, a2, rfl⟩ := hc2.form
    have HC2 := hid hc2
    have HB2 := hid (below_then HB1.out hb2 HB1.out.size)
    clear hc2 hb2
    go_wp2_with fail
    go_ret
    refine ⟨HB2.out, ?_⟩
    rw [HBAD.out]
    exact ⟨_, rfl, HC2.out⟩

theorem ruleBad_none {K R : Int} {T : List Int} (h : ruleBad K R T = none) : ∃ k r : Nat, K = k ∧ R = r ∧ 1 ≤ k ∧ k ≤ 4 ∧ r ≤ 3 ∧ T.length = sz k r ∧ ∀ x ∈ T, 0 ≤ x ∧ x < (k : Int) := by
  unfold ruleBad at h
  split at h
  · cases h
  · rename_i h1
    split at h
    · cases h
    · rename_i h2
      split at h
      · cases h
      · rename_i h3
        refine ⟨K.toNat, R.toNat, by omega, by omega, by omega, by omega, by omega, by simpa using h3, fun x hx => ?_⟩
        rw [Option.map_eq_none_iff, List.findIdx?_eq_none_iff] at h
        have := h x hx
        simp [noSym] at this
        omega
theorem ruleBad_ok {k r : Nat} {T : List Int} (hk1 : 1 ≤ k) (hk4 : k ≤ 4) (hr : r ≤ 3) (hl : T.length = sz k r) (hx : ∀ x ∈ T, 0 ≤ x ∧ x < (k : Int)) : ruleBad k r T = none := by
  unfold ruleBad
  rw [if_neg (by omega), if_neg (by omega), if_neg (by simpa using hl)]
  rw [Option.map_eq_none_iff, List.findIdx?_eq_none_iff]
  intro x h
  have := hx x h
  simp [noSym]
  omega

/-- One step of Narrow. -/
theorem inner_any (w : World) (base k r : Nat) (hk1 : 1 ≤ k) (hk4 : k ≤ 4) (hr : r ≤ 3) (A : Option Addr) (m c : Nat) (T : List Int) (hm : m = T.length) (hT : T.length = sz k r) (hb : base ≤ w.heap.size) (ho : w.ownsRow base 3 1 (.slice A m c) m (T.map (Value.int .i64))) :
    Calls Tryd.prog 63 #[.agg #[.int .i64 k, .int .i64 r, .slice A m c]] w fun e w' => ∃ (r' : Nat) (T' : List Int) (A' : Option Addr) (m' c' : Nat) (ok : Bool), e = .returned (.tuple #[.agg #[.int .i64 k, .int .i64 r', .slice A' m' c'], .bool ok]) ∧
      m' = T'.length ∧ w'.ownsRow base 3 1 (.slice A' m' c') m' (T'.map (Value.int .i64)) ∧ Below w.heap.size w w' ∧ (ok = true → r = r' + 1 ∧ T'.length = sz k r' ∧ narrowT k r' T' = narrowT k r T) ∧ (ok = false → narrowT k r T = (r, T)) := by
  cases r with
  | zero =>
    refine (inner_zero w k A m c).mono ?_
    rintro e w' ⟨rfl, hbl⟩
    exact ⟨0, T, A, m, c, false, rfl, hm, own_below ho hbl (Nat.le_refl _), hbl, fun h => (by cases h), fun _ => rfl⟩
  | succ R =>
    refine (inner_calls w k R hk1 hk4 hr A m c T hm hT (own_ri_row ho)).mono ?_
    rintro e w' ⟨A', c', rfl, ho', hbl⟩
    refine ⟨R, innerT k R T, A', (innerT k R T).length, c', _, rfl, rfl, own_base ho' hb, hbl, fun h => ⟨rfl, innerT_length _ _ _, ?_⟩, fun h => ?_⟩
    · exact (if_pos (of_decide_eq_true h)).symm
    · exact if_neg (of_decide_eq_false h)
end Go.Proofs.YtapebbejdgeijaaDoor
