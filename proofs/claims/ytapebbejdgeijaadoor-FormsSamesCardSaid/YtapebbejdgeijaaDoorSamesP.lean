/- Of narrow and wide forms of a rule that is one: plain laws. -/
import Derived.Test.YtapebbejdgeijaaDoorFormF
namespace Go.Proofs.YtapebbejdgeijaaDoor
open Go.RowKit Go.Extern.Stop Go.Stop Go.Extern Go.Deep

theorem narrow_rule {K R : Int} {T : List Int} (h : ruleBad K R T = none) :
    ∃ (R1 : Nat) (T1 : List Int), narrowT K.toNat R.toNat T = (R1, T1) ∧ ruleBad K (R1 : Int) T1 = none ∧ narrowT K.toNat R1 T1 = (R1, T1) ∧ (R1 : Int) ≤ R ∧ 0 ≤ R ∧ R ≤ 3 := by
  obtain ⟨k, r, rfl, rfl, h1, h4, h3, hl, hx⟩ := ruleBad_none h
  rw [Int.toNat_natCast, Int.toNat_natCast]
  have hok := narrow_ok (show 0 < k by omega) r T hl hx
  have hle := narrow_le k r T
  have hid := narrow_idem k r T
  refine ⟨(narrowT k r T).1, (narrowT k r T).2, rfl, ruleBad_ok h1 h4 (by omega) hok.1 hok.2, hid, by omega, by omega, by omega⟩

theorem widen_rule {K R : Int} {T : List Int} (h : ruleBad K R T = none) (X : Int) (hX : R ≤ X) (hX3 : X ≤ 3) :
    ruleBad K X (widenT K.toNat R.toNat X.toNat T) = none ∧ narrowT K.toNat X.toNat (widenT K.toNat R.toNat X.toNat T) = narrowT K.toNat R.toNat T := by
  obtain ⟨k, r, rfl, rfl, h1, h4, h3, hl, hx⟩ := ruleBad_none h
  obtain ⟨d, rfl⟩ : ∃ d : Nat, X = ((r + d : Nat) : Int) := ⟨(X - r).toNat, by omega⟩
  rw [Int.toNat_natCast, Int.toNat_natCast, Int.toNat_natCast]
  exact ⟨ruleBad_ok h1 h4 (by omega) (widenT_length _ _ _ _) (widenT_range (by omega) hx), narrow_widen (by omega) hl d⟩
end Go.Proofs.YtapebbejdgeijaaDoor
