/- Both New's, whatever the number; the last loop's cells. -/
import Derived.Test.YtapebbejdgeijaaDoorPlayD
import Derived.Test.YtapebbejdgeijaaDoorBagF
namespace Go.Proofs.YtapebbejdgeijaaDoor
open Go.RowKit Go.Extern.Stop Go.Stop Go.Extern Go.Deep

def newSt (n : Int) : BSt := if n < 0 ∨ 8192 < n then none else some (n.toNat, [])
def newN (n : Int) : Int := if n < 0 then 3 else if 8192 < n then 4 else 0
def newL (n : Int) : List (ByteArray × Int) := if n < 0 ∨ 8192 < n then [(opBag, 0)] else []

theorem RefAt.base {X : Nat → Prop} {w : World} {base base' b r n : Nat} {sets : List (List Int)} (h : RefAt w base b r n sets X) (hb : base' ≤ base) : RefAt w base' b r n sets X := by
  obtain ⟨vs, rows, h⟩ := h
  refine ⟨vs, rows, h.blk, Nat.le_trans hb h.lb, Nat.le_trans hb h.lr, own_base h.own hb, fun i ws hi => ?_, h.map, h.cln, h.len, h.nle, h.apart⟩
  obtain ⟨v, h1, h2⟩ := h.elt i ws hi
  exact ⟨v, h1, own_base h2 hb⟩

/-- Either both are there, or neither. -/
def BothNew (w : World) (base : Nat) (o o' : Option Addr) (r r' : Nat) (st : BSt) : Prop :=
  BagIn w base (.pointer o) r st ∧ RefIn w base (.pointer o') r' (fun _ => True) st ∧ r ≠ r' ∧ ((o = none ∧ o' = none) ∨ ∃ b b', o = some b ∧ o' = some b')

theorem bagNew_any (B : Nat) (S : Nat → Addr) (w : World) (hE : Env B S w) (n : Int) :
    Calls Tryd.prog 9 #[.int .i64 n] w fun e w' => ∃ o r v, e = .returned (.tuple #[.pointer o, v]) ∧ OpRes S w' v (newN n) (newL n) ∧ BagIn w' w.heap.size (.pointer o) r (newSt n) ∧ (newSt n ≠ none → r < w'.heap.size) ∧ (newSt n = none → r = 0) ∧ ((newSt n = none ∧ o = none) ∨ (newSt n ≠ none ∧ ∃ b, o = some b)) ∧ Below w.heap.size w w' := by
  by_cases hn : n < 0 ∨ 8192 < n
  · refine (bagNew_err B S w hE n hn).mono ?_
    rintro e w' ⟨v, rfl, hc, hb⟩
    have e1 : newSt n = none := if_pos hn
    have e2 : newL n = [(opBag, 0)] := if_pos hn
    have e3 : newN n = if n < 0 then 3 else 4 := by
      unfold newN
      by_cases h : n < 0
      · simp [h]
      · have : 8192 < n := by omega
        simp [h, this]
    rw [e1, e2, e3]
    refine ⟨none, 0, v, rfl, .inr ⟨hc, ?_, by simp⟩, ⟨rfl, hb.size⟩, fun h => absurd rfl h, fun _ => rfl, .inl ⟨rfl, rfl⟩, hb⟩
    split <;> rfl
  · have e1 : newSt n = some (n.toNat, []) := if_neg hn
    have e2 : newL n = [] := if_neg hn
    have e3 : newN n = 0 := by
      unfold newN
      have h1 : ¬ n < 0 := fun h => hn (.inl h)
      have h2 : ¬ 8192 < n := fun h => hn (.inr h)
      simp [h1, h2]
    refine (bagNew_at w n n.toNat (by omega) (by omega)).mono ?_
    rintro e w' ⟨rfl, hbag, hb⟩
    rw [e1, e2, e3]
    have hr : w.heap.size < w'.heap.size := by
      obtain ⟨vs, rows, h⟩ := hbag
      exact h.map.lt
    exact ⟨_, w.heap.size, _, rfl, .inl ⟨rfl, rfl⟩, ⟨_, rfl, hbag⟩, fun _ => hr, fun h => (by cases h), .inr ⟨by simp, _, rfl⟩, hb⟩

theorem refNew_any (w : World) (n : Int) :
    Calls Tryd.prog 17 #[.int .i64 n] w fun e w' => ∃ o r v, e = .returned (.tuple #[.pointer o, v]) ∧ ErrVal w' 0 v (newN n) (newL n) ∧ RefIn w' w.heap.size (.pointer o) r (fun _ => True) (newSt n) ∧ (newSt n ≠ none → w.heap.size ≤ r) ∧ (newSt n = none → r = 1) ∧ ((newSt n = none ∧ o = none) ∨ (newSt n ≠ none ∧ ∃ b, o = some b)) ∧ Below w.heap.size w w' := by
  by_cases hn : n < 0 ∨ 8192 < n
  · refine (refNew_err w n hn).mono ?_
    rintro e w' ⟨v, rfl, hc, hb⟩
    have e1 : newSt n = none := if_pos hn
    have e2 : newL n = [(opBag, 0)] := if_pos hn
    have e3 : newN n = if n < 0 then 3 else 4 := by
      unfold newN
      by_cases h : n < 0
      · simp [h]
      · have : 8192 < n := by omega
        simp [h, this]
    rw [e1, e2, e3]
    exact ⟨none, 1, v, rfl, hc, ⟨rfl, hb.size⟩, fun h => absurd rfl h, fun _ => rfl, .inl ⟨rfl, rfl⟩, hb⟩
  · have e1 : newSt n = some (n.toNat, []) := if_neg hn
    have e2 : newL n = [] := if_neg hn
    have e3 : newN n = 0 := by
      unfold newN
      have h1 : ¬ n < 0 := fun h => hn (.inl h)
      have h2 : ¬ 8192 < n := fun h => hn (.inr h)
      simp [h1, h2]
    obtain ⟨m, hm⟩ : ∃ m : Nat, n = m := ⟨n.toNat, by omega⟩
    subst hm
    refine (refNew_ok (X := fun _ => True) w m (by omega)).mono ?_
    rintro e w' ⟨b, r, rfl, hbag, hb⟩
    rw [e1, e2, e3]
    have hr : w.heap.size ≤ r := by
      obtain ⟨vs, rows, h⟩ := hbag
      exact h.lr
    exact ⟨_, r, _, rfl, ErrVal.zero _ _, ⟨b, rfl, hbag⟩, fun _ => hr, fun h => (by cases h), .inr ⟨by simp, _, rfl⟩, hb⟩
end Go.Proofs.YtapebbejdgeijaaDoor
