/- package rule: wrong, Size, odd, Check. -/
import Derived.Test.YtapebbejdgeijaaDoorFormQ
import Derived.Test.YtapebbejdgeijaaDoorRaw
import Derived.Shelf.Abstract
namespace Go.Proofs.YtapebbejdgeijaaDoor
open Go.RowKit Go.Extern.Stop Go.Stop Go.Extern Go.Deep

def opRule : ByteArray := ⟨#[114, 117, 108, 101]⟩
theorem ruWrong_calls (B : Nat) (S : Nat → Addr) (w : World) (hE : Env B S w) (at_ n : Int) (hn : (n == 0) = false) :
    Calls Tryd.prog 91 #[.int .i64 at_, .int .i64 n] w (RetErr S (rootIx n) [(opRule, at_)] w) := by
  have HE := hid hE
  clear hE
  go_enter Tryd.func91, Tryd.ntmps91
  go_wp2_with (go_at_call 80; refine (faultNew_calls B S _ HE.out _ _ _ hn).mono ?_; rintro e w' ⟨v, rfl, hc, hb⟩)
  go_ret
  exact ⟨_, rfl, hc, hb⟩

theorem wrap_mul {y k : Nat} (hy : y ≤ 65536) (hk : k ≤ 4) : wrap64 ((y : Int) * (k : Int)) = ((y * k : Nat) : Int) := by
  have h : y * k ≤ 65536 * 4 := Nat.mul_le_mul hy hk
  rw [← Int.natCast_mul, IntWalk.wrap64_in _ (by omega)]
set_option maxRecDepth 100000 in
theorem size_calls (w : World) (k R : Nat) (hk1 : 1 ≤ k) (hk4 : k ≤ 4) (hR : R ≤ 3) :
    Calls Tryd.prog 93 #[.int .i64 k, .int .i64 R] w fun e w' => e = .returned (.tuple #[.int .i64 (sz k R : Int), .nilIface]) ∧ w' = w := by
  go_enter Tryd.func93, Tryd.ntmps93
  go_wp2_with fail
  go_loopw [25, 6] (fun i x wr => ∃ j y : Nat, j ≤ 2 * R ∧ i = .int .i64 j ∧ y = k ^ (j + 1) ∧ x = .int .i64 y ∧ wr = w) (fun i _ _ => 2 * R - (intOf i).toNat)
  case atStart => exact ⟨0, k, Nat.zero_le _, rfl, by simp, rfl, rfl⟩
  case round =>
    obtain ⟨j, y, hj, rfl, hy, rfl, rfl⟩ := hrel
    have HY := hid hy
    have hyb : y ≤ 65536 := by rw [hy]; exact pow_small hk4 hk1 (show j + 1 ≤ 7 by omega) (by decide)
    clear hy
    by_cases hlt : j < 2 * R
    · go_wp2_with fail
      go_roundw
      case measure => simp [intOf]; omega
      case rel =>
        refine ⟨j + 1, k ^ (j + 2), by omega, by go_num, rfl, ?_, trivial⟩
        rw [wrap_mul hyb hk4, HY.out, ← Nat.pow_succ]
    · obtain rfl : y = sz k R := by rw [HY.out]; unfold sz; congr 1; omega
      go_wp2_with fail
      go_ret2
      exact ⟨rfl, rfl⟩

set_option maxRecDepth 100000 in
theorem size_err (B : Nat) (S : Nat → Addr) (w : World) (hE : Env B S w) (k R : Int) (h : k < 1 ∨ 4 < k ∨ R < 0 ∨ 3 < R) :
    Calls Tryd.prog 93 #[.int .i64 k, .int .i64 R] w fun e w' => ∃ v, e = .returned (.tuple #[.int .i64 0, v]) ∧ Chain S w' v (rootIx 3) [(opRule, 0)] ∧ Below w.heap.size w w' := by
  have HE := hid hE
  clear hE
  rcases (show k < 1 ∨ (1 ≤ k ∧ 4 < k) ∨ (1 ≤ k ∧ k ≤ 4 ∧ R < 0) ∨ (1 ≤ k ∧ k ≤ 4 ∧ 0 ≤ R ∧ 3 < R) by omega) with h1 | ⟨h1, h2⟩ | ⟨h1, h2, h3⟩ | ⟨h1, h2, h3, h4⟩
  all_goals
    clear h
    go_enter Tryd.func93, Tryd.ntmps93
    go_wp2_with fail
    refine (ruWrong_calls B S _ HE.out 0 3 (by decide)).mono ?_
    rintro e w1 ⟨v, rfl, hc, hb⟩
    have HC := hid hc
    clear hc
    go_wp2_with fail
    go_ret2
    exact ⟨_, rfl, HC.out, hb⟩

theorem oddC_calls (w : World) (g : Nat) (k x : Int) (hg : w.cell? ⟨g, 0, none⟩ = some (.int .i64 k)) :
    Calls Tryd.prog 142 #[.int .i64 x, .pointer (some ⟨g, 0, none⟩)] w fun e w' => e = .returned (.bool (decide (x < 0 ∨ k ≤ x))) ∧ w' = w := by
  by_cases h0 : x < 0
  · go_enter Tryd.func142, Tryd.ntmps142
    go_wp2_with fail
    go_ret
    exact ⟨by simp [h0], rfl⟩
  · go_enter Tryd.func142, Tryd.ntmps142
    go_wp2_with fail
    go_ret
    exact ⟨by simp; omega, rfl⟩

theorem findIdx_at {xs : List Int} {f : Int → Bool} {j : Nat} {x : Int} (hx : xs[j]? = some x) (hf : f x = true) (h : ∀ (q : Nat) (z : Int), q < j → xs[q]? = some z → f z = false) : xs.findIdx? f = some j := by
  obtain ⟨hj, rfl⟩ := List.getElem?_eq_some_iff.1 hx
  rw [List.findIdx?_eq_some_iff_getElem]
  exact ⟨hj, hf, fun q hq => by simp [h q _ hq (List.getElem?_eq_getElem (by omega))]⟩
theorem findIdx_none {xs : List Int} {f : Int → Bool} (h : ∀ (q : Nat) (z : Int), xs[q]? = some z → f z = false) : xs.findIdx? f = none := by
  rw [List.findIdx?_eq_none_iff]
  intro x hx
  obtain ⟨j, hj⟩ := List.getElem?_of_mem hx
  exact h j x hj

set_option maxRecDepth 100000 in
/-- slices.IndexFunc of a test that leaves memory. -/
theorem indexFunc_calls (w : World) (F : Nat) (cap : Array Value) (A : Option Addr) (m c : Nat) (xs : List Int) (hm : m = xs.length) (hr : RI w .i64 A xs) (f : Int → Bool)
    (he : Enters Tryd.prog F) (hf : ∀ x, Calls Tryd.prog F (#[.int .i64 x] ++ cap) w fun e w' => e = .returned (.bool (f x)) ∧ w' = w) :
    Calls Tryd.prog 108 #[.slice A m c, .func (.func F) #[] cap] w fun e w' => e = .returned (.int .i64 (((xs.findIdx? f).map fun i : Nat => (i : Int)).getD (-1))) ∧ w' = w := by
  have HF := hid hf
  have hen : ∀ (args : Array Value) (W : World), (callFunc F args).run Tryd.prog W = .ok (.enter F args) W := he
  clear he
  have HR := hid hr
  have HM := hid hm
  have hm9 : m ≤ 9223372036854775807 := by rw [hm]; exact hr.1
  clear hf hr hm
  go_enter Tryd.func108, Tryd.ntmps108
  go_wp2_with fail
  go_loopw [8] (fun i wr => ∃ j : Nat, j ≤ m ∧ i = .int .i64 j ∧ (∀ q x, q < j → xs[q]? = some x → f x = false) ∧ wr = w) (fun i _ => m - (intOf i).toNat)
  case atStart => exact ⟨0, Nat.zero_le _, rfl, fun q x h => absurd h (Nat.not_lt_zero _), rfl⟩
  case round =>
    obtain ⟨j, hj, rfl, hall, rfl⟩ := hrel
    have HALL := hid hall
    clear hall
    by_cases hlt : j < m
    · obtain ⟨b, o, x, rfl, hx, hc⟩ := HR.out.at_ (show j < xs.length by rw [← HM.out]; exact hlt)
      have HX := hid hx
      clear hx
      go_wp2_with fail
      refine (HF.out x).mono ?_
      rintro e w2 ⟨rfl, rfl⟩
      cases hfx : f x with
      | true =>
        have HFX := hid hfx
        clear hfx
        go_wp2_with fail
        go_ret
        refine ⟨?_, rfl⟩
        rw [findIdx_at HX.out HFX.out HALL.out]
        rfl
      | false =>
        have HFX := hid hfx
        clear hfx
        go_wp2_with fail
        go_roundw
        case measure => simp [intOf]; omega
        case rel =>
          refine ⟨j + 1, by omega, by go_num, fun q z hq hz => ?_, trivial⟩
          rcases Nat.lt_or_ge q j with h | h
          · exact HALL.out q z h hz
          · obtain rfl : q = j := by omega
            obtain rfl := Option.some.inj (HX.out.symm.trans hz)
            exact HFX.out
    · go_wp2_with fail
      go_ret
      refine ⟨?_, rfl⟩
      rw [findIdx_none (fun q z hz => HALL.out q z (by have := (List.getElem?_eq_some_iff.1 hz).1; have := HM.out; omega) hz)]
      rfl

/-- A number that is no symbol below k. -/
def noSym (k : Int) (x : Int) : Bool := decide (x < 0 ∨ k ≤ x)
def oddAt (k : Int) (xs : List Int) : Int := ((xs.findIdx? (noSym k)).map fun i : Nat => (i : Int)).getD (-1)

theorem Tryd.entersOddC : Enters Tryd.prog 142 := enters_of Tryd.func142 (by kernel_rfl) rfl
theorem cell_one (w : World) (v : Value) (t : TypeId) : (w.alloc (.cells #[v] t)).cell? ⟨w.heap.size, 0, none⟩ = some v := by
  unfold World.cell?
  rw [heap_alloc_new]
  rfl
set_option maxRecDepth 100000 in
theorem odd_calls (w : World) (k : Int) (A : Option Addr) (m c : Nat) (xs : List Int) (hm : m = xs.length) (hr : RI w .i64 A xs) :
    Calls Tryd.prog 128 #[.int .i64 k, .slice A m c] w fun e w' => e = .returned (.int .i64 (oddAt k xs)) ∧ Below w.heap.size w w' := by
  have HB := hid (below_new w (.cells #[.int .i64 k] 3))
  have HR := hid (hr.below HB.out (Nat.le_refl _))
  have HM := hid hm
  have HG : Hid ((w.alloc (.cells #[.int .i64 k] 3)).cell? ⟨w.heap.size, 0, none⟩ = some (.int .i64 k)) := cell_one _ _ _
  have HEN := hid Tryd.entersOddC
  have HF : Hid (∀ x, Calls Tryd.prog 142 (#[.int .i64 x] ++ #[.pointer (some ⟨w.heap.size, 0, none⟩)]) (w.alloc (.cells #[.int .i64 k] 3)) fun e w' => e = .returned (.bool (noSym k x)) ∧ w' = w.alloc (.cells #[.int .i64 k] 3)) := fun x => oddC_calls _ _ k x HG.out
  clear hr hm
  go_enter Tryd.func128, Tryd.ntmps128
  go_wp2_with fail
  refine (indexFunc_calls (w.alloc (.cells #[.int .i64 k] 3)) 142 #[.pointer (some ⟨w.heap.size, 0, none⟩)] A m c xs HM.out HR.out (noSym k) HEN.out HF.out).mono ?_
  rintro e w1 ⟨rfl, rfl⟩
  go_wp2_with fail
  go_ret
  exact ⟨rfl, HB.out⟩

/-- Where a rule is none, and the place that is told. -/
def ruleBad (K R : Int) (T : List Int) : Option Int :=
  if K < 1 ∨ 4 < K then some 0 else if R < 0 ∨ 3 < R then some 1 else if T.length ≠ sz K.toNat R.toNat then some 2 else (T.findIdx? (noSym K)).map fun i : Nat => 3 + (i : Int)
def CheckPost (S : Nat → Addr) (n : Int) (l : List (ByteArray × Int)) (b : Option Int) (w : World) (e : Ending) (w' : World) : Prop :=
  Below w.heap.size w w' ∧ match b with
  | none => e = .returned .nilIface
  | some i => ∃ v, e = .returned v ∧ Chain S w' v (rootIx n) (l ++ [(opRule, i)])

set_option maxRecDepth 100000 in
theorem ruCheck_calls (B : Nat) (S : Nat → Addr) (w : World) (hE : Env B S w) (K R : Int) (A : Option Addr) (m c : Nat) (T : List Int) (hm : m = T.length) (hr : RI w .i64 A T) :
    Calls Tryd.prog 104 #[.agg #[.int .i64 K, .int .i64 R, .slice A m c]] w (CheckPost S 1 [] (ruleBad K R T) w) := by
  have HB := hid (below_new w (.cells #[.int .i64 K, .int .i64 R, .slice A m c] 57))
  have HR := hid (hr.below HB.out (Nat.le_refl _))
  have HE := hid (hE.below' HB.out)
  have HM := hid hm
  have hm9 : m ≤ 9223372036854775807 := by rw [hm]; exact hr.1
  have HC : Hid ((w.alloc (.cells #[.int .i64 K, .int .i64 R, .slice A m c] 57)).heap[w.heap.size]? = some (.cells #[.int .i64 K, .int .i64 R, .slice A m c] 57 (0, 0))) := heap_alloc_new w _
  clear hr hm hE
  by_cases hK : K < 1 ∨ 4 < K
  · have hb : ruleBad K R T = some 0 := if_pos hK
    rw [hb]
    rcases (show K < 1 ∨ (1 ≤ K ∧ 4 < K) by omega) with h1 | ⟨h1, h2⟩
    all_goals
      clear hK hb
      obtain ⟨c0, c1, c2⟩ := cells3 HC.out
      go_enter Tryd.func104, Tryd.ntmps104
      go_wp2_with fail
      refine (ruWrong_calls B S _ HE.out 0 1 (by decide)).mono ?_
      rintro e w1 ⟨v, rfl, hc, hb⟩
      obtain ⟨t, a, rfl⟩ := hc.form
      have HCH := hid hc
      clear hc
      go_wp2_with fail
      go_ret
      exact ⟨below_then HB.out hb HB.out.size, _, rfl, HCH.out⟩
  · have hk1 : 1 ≤ K := by omega
    have hk4 : K ≤ 4 := by omega
    by_cases hR : R < 0 ∨ 3 < R
    · have hb : ruleBad K R T = some 1 := by unfold ruleBad; rw [if_neg hK, if_pos hR]
      rw [hb]
      clear hb hK
      obtain ⟨c0, c1, c2⟩ := cells3 HC.out
      have HRR := hid hR
      clear hR
      go_enter Tryd.func104, Tryd.ntmps104
      go_wp2_with fail
      refine (size_err B S _ HE.out K R (by have := HRR.out; omega)).mono ?_
      rintro e w1 ⟨v, rfl, hc, hb⟩
      obtain ⟨t, a, rfl⟩ := hc.form
      have HB1 := hid (below_then HB.out hb HB.out.size)
      have HE1 := hid (HE.out.below' hb)
      clear hc hb
      go_wp2_with fail
      refine (ruWrong_calls B S _ HE1.out 1 1 (by decide)).mono ?_
      rintro e w2 ⟨v2, rfl, hc, hb⟩
      obtain ⟨t2, a2, rfl⟩ := hc.form
      have HCH := hid hc
      clear hc
      go_wp2_with fail
      go_ret
      exact ⟨below_then HB1.out hb HB1.out.size, _, rfl, HCH.out⟩
    · obtain ⟨k, rfl⟩ : ∃ k : Nat, K = k := ⟨K.toNat, by omega⟩
      obtain ⟨r, rfl⟩ : ∃ r : Nat, R = r := ⟨R.toNat, by omega⟩
      have hr3 : r ≤ 3 := by omega
      have hzb : sz k r ≤ 65536 := pow_small (by omega) (by omega) (show 2 * r + 1 ≤ 7 by omega) (by decide)
      by_cases hL : m = sz k r
      · have hb : ruleBad k r T = (T.findIdx? (noSym k)).map fun i : Nat => 3 + (i : Int) := by
          unfold ruleBad
          rw [if_neg hK, if_neg hR, if_neg (by rw [← HM.out]; simpa using hL)]
        rw [hb]
        have HOD : Hid (oddAt k T = ((T.findIdx? (noSym k)).map fun i : Nat => (i : Int)).getD (-1)) := rfl
        have HFB : Hid (∀ i, T.findIdx? (noSym k) = some i → i < m) := fun i hi => by
          rw [List.findIdx?_eq_some_iff_getElem] at hi
          obtain ⟨h, _⟩ := hi
          rw [HM.out]; exact h
        clear hb hK hR
        obtain ⟨c0, c1, c2⟩ := cells3 HC.out
        have HL := hid hL
        clear hL
        go_enter Tryd.func104, Tryd.ntmps104
        go_wp2_with fail
        refine (size_calls _ k r (by omega) (by omega) (by omega)).mono ?_
        rintro e w1 ⟨rfl, rfl⟩
        rw [show sz k r = m from HL.out.symm]
        go_wp2_with fail
        refine (odd_calls _ k A m c T HM.out HR.out).mono ?_
        rintro e w1 ⟨rfl, hb⟩
        have HB1 := hid (below_then HB.out hb HB.out.size)
        have HE1 := hid (HE.out.below' hb)
        clear hb
        cases hfi : T.findIdx? (noSym k) with
        | none =>
          have e1 : oddAt k T = -1 := by rw [HOD.out, hfi]; rfl
          have HFI := hid hfi
          rw [e1]
          clear e1 hfi
          go_wp2_with fail
          go_ret
          refine ⟨HB1.out, ?_⟩
          rw [HFI.out]
          rfl
        | some i =>
          have e1 : oddAt k T = i := by rw [HOD.out, hfi]; rfl
          have hi := HFB.out i hfi
          have HFI := hid hfi
          have hmz : m ≤ 65536 := by rw [show m = sz k r from HL.out]; exact hzb
          rw [e1]
          clear e1 hfi
          go_wp2_with fail
          refine (ruWrong_calls B S _ HE1.out _ 1 (by decide)).mono ?_
          rintro e w2 ⟨v2, rfl, hc, hb⟩
          obtain ⟨t2, a2, rfl⟩ := hc.form
          have HCH := hid hc
          clear hc
          go_wp2_with fail
          go_ret
          refine ⟨below_then HB1.out hb HB1.out.size, ?_⟩
          rw [HFI.out]
          exact ⟨_, rfl, HCH.out⟩
      · have hb : ruleBad k r T = some 2 := by
          unfold ruleBad
          rw [if_neg hK, if_neg hR, if_pos (by rw [← HM.out]; simpa using hL)]
        rw [hb]
        clear hb hK hR
        obtain ⟨c0, c1, c2⟩ := cells3 HC.out
        go_enter Tryd.func104, Tryd.ntmps104
        go_wp2_with fail
        refine (size_calls _ k r (by omega) (by omega) (by omega)).mono ?_
        rintro e w1 ⟨rfl, rfl⟩
        generalize sz k r = z at *
        go_wp2_with fail
        refine (ruWrong_calls B S _ HE.out 2 1 (by decide)).mono ?_
        rintro e w2 ⟨v2, rfl, hc, hb⟩
        obtain ⟨t2, a2, rfl⟩ := hc.form
        have HCH := hid hc
        clear hc
        go_wp2_with fail
        go_ret
        exact ⟨below_then HB.out hb HB.out.size, _, rfl, HCH.out⟩
end Go.Proofs.YtapebbejdgeijaaDoor
