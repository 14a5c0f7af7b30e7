/- strings.TrimLeft of zeros; nat.Text of 124. -/
import Derived.Test.YtapebbejdgeijaaDoorNatB
import Derived.Lib.JoinLaws
namespace Go.Proofs.YtapebbejdgeijaaDoor
open Go.RowKit Go.Extern.Stop Go.Stop Go.Extern Go.Deep

def z124 (j : Nat) : ByteArray := ⟨(#[48, 48, 48, 48, 48, 48, 49, 50, 52] : Array UInt8).extract j 9⟩

set_option maxRecDepth 100000 in
set_option maxHeartbeats 2000000 in
theorem trim124_calls (w : World) : Calls Tryd.prog 138 #[.string ⟨#[48, 48, 48, 48, 48, 48, 49, 50, 52]⟩, .int .u8 48] w fun e w' => e = .returned (.string ⟨#[49, 50, 52]⟩) ∧ w' = w := by
  go_enter Tryd.func138, Tryd.ntmps138
  go_wp2_with fail
  go_loopw [0] (fun v wr => ∃ j : Nat, j ≤ 6 ∧ v = .string (z124 j) ∧ wr = w) (fun v _ => match v with | .string s => s.size | _ => 0)
  case atStart => exact ⟨0, by decide, rfl, rfl⟩
  case round =>
    obtain ⟨j, hj, rfl, rfl⟩ := hrel
    rcases (show j = 0 ∨ j = 1 ∨ j = 2 ∨ j = 3 ∨ j = 4 ∨ j = 5 ∨ j = 6 by omega) with rfl | rfl | rfl | rfl | rfl | rfl | rfl
    · rw [show z124 0 = ⟨#[48, 48, 48, 48, 48, 48, 49, 50, 52]⟩ from rfl]
      have z : ((((⟨#[48, 48, 48, 48, 48, 48, 49, 50, 52]⟩ : ByteArray)[0]'(by decide)).toNat : Nat) : Int) = 48 := by rfl
      go_wp2_with fail
      exact ⟨⟨1, by decide, rfl, trivial⟩, by decide⟩
    · rw [show z124 1 = ⟨#[48, 48, 48, 48, 48, 49, 50, 52]⟩ from rfl]
      have z : ((((⟨#[48, 48, 48, 48, 48, 49, 50, 52]⟩ : ByteArray)[0]'(by decide)).toNat : Nat) : Int) = 48 := by rfl
      go_wp2_with fail
      exact ⟨⟨2, by decide, rfl, trivial⟩, by decide⟩
    · rw [show z124 2 = ⟨#[48, 48, 48, 48, 49, 50, 52]⟩ from rfl]
      have z : ((((⟨#[48, 48, 48, 48, 49, 50, 52]⟩ : ByteArray)[0]'(by decide)).toNat : Nat) : Int) = 48 := by rfl
      go_wp2_with fail
      exact ⟨⟨3, by decide, rfl, trivial⟩, by decide⟩
    · rw [show z124 3 = ⟨#[48, 48, 48, 49, 50, 52]⟩ from rfl]
      have z : ((((⟨#[48, 48, 48, 49, 50, 52]⟩ : ByteArray)[0]'(by decide)).toNat : Nat) : Int) = 48 := by rfl
      go_wp2_with fail
      exact ⟨⟨4, by decide, rfl, trivial⟩, by decide⟩
    · rw [show z124 4 = ⟨#[48, 48, 49, 50, 52]⟩ from rfl]
      have z : ((((⟨#[48, 48, 49, 50, 52]⟩ : ByteArray)[0]'(by decide)).toNat : Nat) : Int) = 48 := by rfl
      go_wp2_with fail
      exact ⟨⟨5, by decide, rfl, trivial⟩, by decide⟩
    · rw [show z124 5 = ⟨#[48, 49, 50, 52]⟩ from rfl]
      have z : ((((⟨#[48, 49, 50, 52]⟩ : ByteArray)[0]'(by decide)).toNat : Nat) : Int) = 48 := by rfl
      go_wp2_with fail
      exact ⟨⟨6, by decide, rfl, trivial⟩, by decide⟩
    · rw [show z124 6 = ⟨#[49, 50, 52]⟩ from rfl]
      have z : ((((⟨#[49, 50, 52]⟩ : ByteArray)[0]'(by decide)).toNat : Nat) : Int) = 49 := by rfl
      go_wp2_with fail
      go_ret
      exact ⟨rfl, rfl⟩

set_option maxRecDepth 100000 in
theorem trimLeft124_calls (w : World) : Calls Tryd.prog 127 #[.string ⟨#[48, 48, 48, 48, 48, 48, 49, 50, 52]⟩, .string ⟨#[48]⟩] w fun e w' => e = .returned (.string ⟨#[49, 50, 52]⟩) ∧ w' = w := by
  have z : ((((⟨#[48]⟩ : ByteArray)[0]'(by decide)).toNat : Nat) : Int) = 48 := by rfl
  go_enter Tryd.func127, Tryd.ntmps127
  go_wp2_with fail
  refine (trim124_calls w).mono ?_
  rintro e w' ⟨rfl, rfl⟩
  go_wp2_with fail
  go_ret
  exact ⟨rfl, rfl⟩

theorem Tryd.infoU8' : (Tryd.prog.info? 5).map (fun i => (i.zero, i.size, i.bytes)) = some (some (.int .u8 0), 1, 1) := by kernel_rfl
def dg (j : Nat) : List Int := [52, 50, 49, 48, 48, 48, 48, 48, 48].take j
def rest (j : Nat) : Int := if j = 0 then 124 else if j = 1 then 12 else if j = 2 then 1 else 0

theorem Tryd.mk09 (w : World) : (Instr.makeSlice 131 (.int .i64 0) (.int .i64 9)).run Tryd.prog w = .ok (.slice (some ⟨w.heap.size, 0, none⟩) 0 9) (w.alloc (.cells (madeCells #[.int .u8 0] 9) 5)) := by
  obtain ⟨i0, hi, hz0, hz1, hz2⟩ := info_parts Tryd.infoU8'
  have h := run_make (P := Tryd.prog) w 131 5 i0 (.int .u8 0) Tryd.underlying131 hi hz0 .i64 .i64 0 9 (by omega) (by omega) (by rw [hz2]; decide) (by omega)
  rw [hz1] at h
  exact h
theorem own09 (w : World) : (w.alloc (.cells (madeCells #[.int .u8 0] 9) 5)).ownsRow w.heap.size 5 1 (.slice (some ⟨w.heap.size, 0, none⟩) 0 9) 0 [] := by
  have hs : (madeCells #[Value.int .u8 0] 9).size = 9 := by rw [← Array.length_toList, toList_madeCells_one]; simp
  exact ⟨rfl, .inr ⟨_, 9, _, rfl, Nat.le_refl _, heap_alloc_new w _, by omega, by simp only [maxLen]; omega, by omega, by simp⟩⟩
def rv (j : Nat) : List Int := [48, 48, 48, 48, 48, 48, 49, 50, 52].take j
theorem rv_step : ∀ j, j < 9 → ∀ q, q = 8 - j → rv (j + 1) = rv j ++ [(dg 9).getD q 0] := by
  intro j hj q hq
  rcases (show j = 0 ∨ j = 1 ∨ j = 2 ∨ j = 3 ∨ j = 4 ∨ j = 5 ∨ j = 6 ∨ j = 7 ∨ j = 8 by omega) with rfl | rfl | rfl | rfl | rfl | rfl | rfl | rfl | rfl <;> subst hq <;> rfl
theorem dg_step : ∀ j, j < 9 → dg (j + 1) = dg j ++ [48 + rest j % 10] := by decide
theorem rest_step : ∀ j, j < 9 → rest (j + 1) = rest j / 10 := by
  intro j hj
  rcases (show j = 0 ∨ j = 1 ∨ j = 2 ∨ 3 ≤ j by omega) with rfl | rfl | rfl | h
  · rfl
  · rfl
  · rfl
  · have e1 : rest j = 0 := by simp [rest]; omega
    have e2 : rest (j + 1) = 0 := by simp [rest]; omega
    rw [e1, e2]; rfl
theorem rest_range : ∀ j, 0 ≤ rest j ∧ rest j < 125 := by
  intro j
  unfold rest
  split
  · decide
  · split
    · decide
    · split <;> decide
theorem dg_length : ∀ j, j ≤ 9 → (dg j).length = j := by
  intro j hj
  simp [dg]; omega
set_option maxRecDepth 100000 in
set_option maxHeartbeats 4000000 in
theorem natText124_calls (w : World) (A : Option Addr) (c : Nat) (hx : Limb w A 1 124) (hc1 : 1 ≤ c) : Calls Tryd.prog 102 #[.slice A 1 c] w fun e w' => e = .returned (.string ⟨#[49, 50, 52]⟩) ∧ Below w.heap.size w w' := by
  have HX := hid hx
  obtain ⟨_, _, ⟨h, _⟩ | ⟨_, b, o, rfl, hc⟩⟩ := hx
  · cases h
  have HRI : Hid (RI w .u32 (some ⟨b, o, none⟩) [124]) := ⟨by decide, fun _ => ⟨b, o, rfl, World.block_lt_of_cell? w _ hc, fun j x hj => by
    have : j = 0 := by have := (List.getElem?_eq_some_iff.1 hj).1; simp at this; exact this
    subst this
    obtain rfl : (124 : Int) = x := by simpa using hj
    exact hc⟩⟩
  clear hc
  go_enter Tryd.func102, Tryd.ntmps102
  go_wp2_with fail
  refine (norm_new w (some ⟨b, o, none⟩) 1 c [124] 124 rfl hc1 HRI.out (strip_one 124)).mono ?_
  rintro e w1 ⟨c1, rfl, hcc, hr1, rfl⟩
  rw [show (natL 124).length = 1 from rfl] at hcc ⊢
  clear hcc hr1
  go_wp2_with fail
  refine wp_loop_rounds 2 ?_
  rw [rounds_succ]
  go_wp2_with fail
  refine (over_calls w1 _ 1 c1 124 1000000000 HX.out (by decide) (by decide)).mono ?_
  rintro e w2 ⟨A2, c2, rfl, _, _, hb2⟩
  rw [show (natL (124 / 1000000000)).length = 0 from rfl, show (124 : Int) % 1000000000 = 124 from rfl]
  have HB2 := hid hb2
  clear hb2
  go_wp2_with fail
  go_loopw [19, 3, 4] (fun i v y wr => ∃ j : Nat, j ≤ 9 ∧ i = .int .i64 j ∧ wr.ownsRow w1.heap.size 5 1 v j ((dg j).map (Value.int .u8)) ∧ y = .int .u32 (rest j) ∧ Below w1.heap.size w1 wr) (fun i _ _ _ => 9 - (intOf i).toNat)
  case atStart => exact ⟨0, by decide, rfl, World.ownsRow_nil _ _ _ _, rfl, HB2.out⟩
  case round =>
    obtain ⟨j, hj, rfl, ho, rfl, hb⟩ := hrel
    have HO := hid ho
    have HB := hid hb
    clear ho hb
    by_cases hlt : j < 9
    · have HDG := hid (dg_step j hlt)
      have HRE := hid (rest_step j hlt)
      obtain ⟨hy0, hy1⟩ := rest_range j
      generalize rest j = y at *
      have hz0 : 0 ≤ y % 10 := Int.emod_nonneg y (by decide)
      have hz1 : y % 10 < 10 := Int.emod_lt_of_pos y (by decide)
      have hsz : w1.heap.size ≤ wr.heap.size := HB.out.size
      have hapl : (j + 1) * 1 ≤ 140737488355328 := by omega
      go_wp2_with (at_builtin; refine append1 (w0 := w1) w1.heap.size (by rfl) (.tmp 21) (.tmp 26) 131 5 (.int .u8 0) 1 (by rfl) Tryd.underlying131 Tryd.infoU8' (by rfl) (by decide) _ _ _ _ (by rfl) (by rfl) (by rfl) HO.out HB.out hsz hapl ?_; intro v1 w4 o1 b1 g1 _)
      go_roundw
      case measure => simp [intOf]; omega
      case rel =>
        refine ⟨j + 1, by omega, by go_num, ?_, ?_, b1⟩
        · rw [HDG.out, List.map_append]
          exact o1
        · rw [HRE.out]
    · obtain rfl : j = 9 := by omega
      obtain ⟨A9, c9, rfl, _, _, hri9⟩ := own_ri HO.out
      have HRI9 := hid hri9
      rw [show (dg 9).length = 9 from rfl]
      clear hri9
      generalize wr = w5 at *
      have hmk := Tryd.mk09
      have HO5 := hid (own09 w5)
      have BN := hid (below_new w5 (.cells (madeCells #[.int .u8 0] 9) 5))
      have HB5 := hid HB.out
      clear HO HB
      go_wp2_with fail
      rw [rounds_succ]
      go_wp2_with fail
      go_loopw [6, 5] (fun i v wr => ∃ j : Nat, j ≤ 9 ∧ i = .int .i64 (8 - (j : Int)) ∧ wr.ownsRow w5.heap.size 5 1 v j ((rv j).map (Value.int .u8)) ∧ Below w5.heap.size w5 wr) (fun i _ _ => (intOf i + 1).toNat)
      case atStart => exact ⟨0, by decide, rfl, HO5.out, BN.out⟩
      case round =>
        obtain ⟨j, hj, rfl, ho, hb⟩ := hrel
        have HO := hid ho
        have HB := hid hb
        clear ho hb
        by_cases hlt : j < 9
        · obtain ⟨q, hq⟩ : ∃ q, q = 8 - j := ⟨_, rfl⟩
          have eq1 : (8 : Int) - (j : Int) = (q : Int) := by omega
          have hq9 : q < 9 := by omega
          have HRV := hid (rv_step j hlt q hq)
          obtain ⟨b2, o2, x, rfl, hx, hcx⟩ := (HRI9.out.below HB.out (Nat.le_refl _)).at_ (show q < (dg 9).length by rw [dg_length 9 (by decide)]; exact hq9)
          have hxx : (dg 9).getD q 0 = x := by rw [List.getD_eq_getElem?_getD, hx]; rfl
          rw [hxx] at HRV
          have hsz : w5.heap.size ≤ wr.heap.size := HB.out.size
          have hapl : (j + 1) * 1 ≤ 140737488355328 := by omega
          clear hx hxx hq
          go_wp2_with (at_builtin; refine append1 (w0 := w5) w5.heap.size (by rfl) (.tmp 41) (.tmp 46) 131 5 (.int .u8 0) 1 (by rfl) Tryd.underlying131 Tryd.infoU8' (by rfl) (by decide) _ _ _ _ (by rfl) (by rfl) (by rfl) HO.out HB.out hsz hapl ?_; intro v1 w6 o1 b1 g1 _)
          go_roundw
          case measure => simp [intOf]; omega
          case rel =>
            refine ⟨v1, _, _, _, _, _, _, _, _, _, _, _, _, ⟨j + 1, by omega, ?_, ?_, b1⟩, rfl⟩
            · congr 1; omega
            · rw [HRV.out, List.map_append]
              exact o1
        · obtain rfl : j = 9 := by omega
          have e9 : (8 : Int) - ((9 : Nat) : Int) = -1 := by rfl
          obtain ⟨A7, c7, hv7, _, _⟩ := own_slice HO.out
          have hcv := own_convert (P := Tryd.prog) (src := 131) (dst := 9) (e := 5) Tryd.underlying131 Tryd.underlying5 Tryd.underlying9 HO.out
          rw [show strOfNums (rv 9) = ⟨#[48, 48, 48, 48, 48, 48, 49, 50, 52]⟩ from rfl] at hcv
          subst hv7
          go_wp2_with fail
          refine (trimLeft124_calls wr).mono ?_
          rintro e w9 ⟨rfl, rfl⟩
          go_wp2_with fail
          go_ret
          exact ⟨rfl, below_then HB5.out HB.out HB5.out.size⟩
end Go.Proofs.YtapebbejdgeijaaDoor
