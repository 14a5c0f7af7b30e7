/- package forms: symbol, made. -/
import Derived.Test.YtapebbejdgeijaaDoorRule
import Derived.Test.YtapebbejdgeijaaDoorErrC
import Derived.Test.YtapebbejdgeijaaDoorLent
namespace Go.Proofs.YtapebbejdgeijaaDoor
open Go.RowKit Go.Extern.Stop Go.Stop Go.Extern Go.Deep

abbrev ints (ds : List Nat) : List Int := ds.map fun d : Nat => (d : Int)
theorem wrap_step {y k d : Nat} (hy : y ≤ 65536) (hk : k ≤ 4) (hd : d < k) : wrap64 (wrap64 ((y : Int) * (k : Int)) + (d : Int)) = ((y * k + d : Nat) : Int) := by
  have h : y * k ≤ 65536 * 4 := Nat.mul_le_mul hy hk
  rw [wrap_mul hy hk, IntWalk.wrap64_in _ (by omega)]
  omega

set_option maxRecDepth 100000 in
theorem symbol_calls (w : World) (k : Nat) (hk1 : 1 ≤ k) (hk4 : k ≤ 4) (R : Int) (A : Option Addr) (m c : Nat) (T : List Int) (hm : m = T.length) (hr : RI w .i64 A T) (Aw : Option Addr) (mw cw : Nat) (ds : List Nat) (hmw : mw = ds.length) (hrw : RI w .i64 Aw (ints ds))
    (hd : ∀ d ∈ ds, d < k) (hl : ds.length ≤ 7) (x : Int) (hx : T[num k ds]? = some x) :
    Calls Tryd.prog 100 #[.agg #[.int .i64 k, .int .i64 R, .slice A m c], .slice Aw mw cw] w fun e w' => e = .returned (.int .i64 x) ∧ Below w.heap.size w w' := by
  have HB := hid (below_new w (.cells #[.int .i64 k, .int .i64 R, .slice A m c] 57))
  have HR := hid (hr.below HB.out (Nat.le_refl _))
  have HRW := hid (hrw.below HB.out (Nat.le_refl _))
  have HM := hid hm
  have HMW := hid hmw
  have HX := hid hx
  have hm9 : m ≤ 9223372036854775807 := by rw [hm]; exact hr.1
  have hmw7 : mw ≤ 7 := by omega
  have HD : Hid (∀ (j d : Nat), ds[j]? = some d → d < k) := fun j d h => hd d (List.mem_of_getElem? h)
  have HS : Hid (∀ j, num k (ds.take j) ≤ 65536) := fun j => num_small hk4 hk1 (fun d h => hd d (List.mem_of_mem_take h)) (by rw [List.length_take]; omega)
  obtain ⟨c0, c1, c2⟩ := cells3 (heap_alloc_new w (.cells #[.int .i64 k, .int .i64 R, .slice A m c] 57))
  clear hr hm hrw hmw hx hd hl
  go_enter Tryd.func100, Tryd.ntmps100
  go_wp2_with fail
  generalize w.alloc (.cells #[.int .i64 k, .int .i64 R, .slice A m c] 57) = w1 at *
  go_loopw [10, 5] (fun i x wr => ∃ j y : Nat, j ≤ mw ∧ i = .int .i64 j ∧ y = num k (ds.take j) ∧ x = .int .i64 y ∧ wr = w1) (fun i _ _ => mw - (intOf i).toNat)
  case atStart => exact ⟨0, 0, Nat.zero_le _, rfl, rfl, rfl, rfl⟩
  case round =>
    obtain ⟨j, y, hj, rfl, hy, rfl, rfl⟩ := hrel
    have HY := hid hy
    have hyb : y ≤ 65536 := by rw [hy]; exact HS.out j
    clear hy
    by_cases hlt : j < mw
    · have hjl : j < ds.length := by rw [← HMW.out]; exact hlt
      obtain ⟨b, o, x', rfl, hx', hc⟩ := HRW.out.at_ (show j < (ints ds).length by rw [List.length_map]; exact hjl)
      obtain ⟨d, hd⟩ : ∃ d, ds[j]? = some d := ⟨_, List.getElem?_eq_getElem hjl⟩
      obtain rfl : (d : Int) = x' := by rw [List.getElem?_map, hd] at hx'; exact Option.some.inj hx'
      have HDJ := hid hd
      have hdk : d < k := HD.out j d hd
      clear hd hx'
      go_wp2_with fail
      go_roundw
      case measure => simp [intOf]; omega
      case rel =>
        refine ⟨j + 1, num k (ds.take (j + 1)), by omega, by go_num, rfl, ?_, trivial⟩
        rw [wrap_step hyb hk4 hdk, num_take_succ k ds j d HDJ.out, ← HY.out]
    · have hyn : y = num k ds := by rw [HY.out, List.take_of_length_le (by rw [← HMW.out]; omega)]
      have hyT : y < T.length := by rw [hyn]; exact (List.getElem?_eq_some_iff.1 HX.out).1
      obtain ⟨b, o, x', rfl, hx', hc⟩ := HR.out.at_ hyT
      obtain rfl : x = x' := by rw [hyn] at hx'; exact Option.some.inj (HX.out.symm.trans hx')
      have hym : y < m := by rw [HM.out]; exact hyT
      clear hx' hyn hyT
      go_wp2_with fail
      go_ret
      exact ⟨rfl, HB.out⟩
end Go.Proofs.YtapebbejdgeijaaDoor
