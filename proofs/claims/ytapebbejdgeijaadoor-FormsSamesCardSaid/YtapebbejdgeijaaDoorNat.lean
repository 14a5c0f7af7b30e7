/- package nat, at numbers of one limb. -/
import Derived.Test.YtapebbejdgeijaaDoorBagA
import Derived.Test.YtapebbejdgeijaaDoorRaw
import Derived.Test.YtapebbejdgeijaaDoorCell3
namespace Go.Proofs.YtapebbejdgeijaaDoor
open Go.RowKit Go.Extern.Stop Go.Stop Go.Extern Go.Deep

/-- Without the zeros at the end. -/
def strip : List Int → List Int
  | [] => []
  | x :: xs => if strip xs = [] ∧ x = 0 then [] else x :: strip xs
theorem strip_snoc_zero : ∀ (xs : List Int), strip (xs ++ [0]) = strip xs
  | [] => rfl
  | x :: xs => by
    show (if strip (xs ++ [0]) = [] ∧ x = 0 then [] else x :: strip (xs ++ [0])) = _
    rw [strip_snoc_zero xs]
    rfl
theorem strip_snoc : ∀ (xs : List Int) (x : Int), x ≠ 0 → strip (xs ++ [x]) = xs ++ [x]
  | [], x, h => by simp [strip, h]
  | y :: xs, x, h => by
    show (if strip (xs ++ [x]) = [] ∧ y = 0 then [] else y :: strip (xs ++ [x])) = _
    rw [strip_snoc xs x h]
    simp

set_option maxRecDepth 100000 in
theorem norm_calls (w : World) (A : Option Addr) (m c : Nat) (xs : List Int) (hm : m = xs.length) (hmcap : m ≤ c) (hr : RI w .u32 A xs) :
    Calls Tryd.prog 126 #[.slice A m c] w fun e w' => e = .returned (.slice A (strip xs).length c) ∧ strip xs = xs.take (strip xs).length ∧ w' = w := by
  have HR := hid hr
  have HM := hid hm
  have hm9 : m ≤ 9223372036854775807 := by rw [hm]; exact hr.1
  have hmc : m ≤ xs.length := by omega
  clear hr hm
  go_enter Tryd.func126, Tryd.ntmps126
  go_wp2_with fail
  go_loopw [0] (fun v wr => ∃ j : Nat, j ≤ m ∧ v = .slice A j c ∧ strip (xs.take j) = strip xs ∧ wr = w) (fun v _ => match v with | .slice _ j _ => j | _ => 0)
  case atStart => exact ⟨m, Nat.le_refl _, rfl, by rw [HM.out, List.take_length], rfl⟩
  case round =>
    obtain ⟨j, hj, rfl, hs, rfl⟩ := hrel
    have HS := hid hs
    clear hs
    by_cases h0 : 0 < j
    · obtain ⟨q, hq⟩ : ∃ q, j = q + 1 := ⟨j - 1, by omega⟩
      subst hq
      obtain ⟨b, o, x, rfl, hx, hc⟩ := HR.out.at_ (show q < xs.length by omega)
      have HX := hid hx
      clear hx
      by_cases hx0 : x = 0
      · subst hx0
        go_wp2_with fail
        go_roundw
        case measure => simp
        case rel =>
          refine ⟨q, by omega, rfl, ?_, trivial⟩
          obtain ⟨h1, h2⟩ := List.getElem?_eq_some_iff.1 HX.out
          have := HS.out
          rw [List.take_succ_eq_append_getElem h1, h2, strip_snoc_zero] at this
          exact this
      · have hb : (x == 0) = false := by simpa using hx0
        have HX0 := hid hx0
        clear hx0
        go_wp2_with fail
        go_ret
        obtain ⟨h1, h2⟩ := List.getElem?_eq_some_iff.1 HX.out
        have h3 := HS.out
        rw [List.take_succ_eq_append_getElem h1, h2, strip_snoc _ _ HX0.out] at h3
        have h4 : (strip xs).length = q + 1 := by rw [← h3]; simp; omega
        refine ⟨by rw [h4]; rfl, ?_, rfl⟩
        rw [h4, List.take_succ_eq_append_getElem h1, h2, h3]
    · obtain rfl : j = 0 := by omega
      go_wp2_with fail
      go_ret
      have h3 := HS.out
      rw [List.take_zero] at h3
      have h4 : strip xs = [] := h3.symm
      refine ⟨by rw [h4]; rfl, ?_, rfl⟩
      rw [h4]; rfl

/-- The limbs of a number below 2^32. -/
def natL (x : Int) : List Int := if x = 0 then [] else [x]
theorem strip_one (x : Int) : strip [x] = natL x := by simp [strip, natL]
theorem strip_two (x : Int) : strip [x, 0] = natL x := by simp [strip, natL]
end Go.Proofs.YtapebbejdgeijaaDoor
