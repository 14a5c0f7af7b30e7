/- bag: key. -/
import Derived.Test.YtapebbejdgeijaaDoorBagA
import Derived.Lib.JoinLaws
namespace Go.Proofs.YtapebbejdgeijaaDoor
open Go.RowKit Go.Extern.Stop Go.Stop Go.Extern Go.Deep

theorem Tryd.infoU8 : (Tryd.prog.info? 5).map (fun i => (i.zero, i.size, i.bytes)) = some (some (.int .u8 0), 1, 1) := by kernel_rfl

def bytesOf (y : Int) (j : Nat) : List Int := (List.range j).map fun i => y / 256 ^ i % 256
def keyOf (ws : List Int) : List Int := ws.flatMap fun y => bytesOf y 8
theorem keyOf_snoc (ws : List Int) (k : Nat) (y : Int) (h : ws[k]? = some y) : keyOf (ws.take (k + 1)) = keyOf (ws.take k) ++ bytesOf y 8 := by
  obtain ⟨hk, rfl⟩ := List.getElem?_eq_some_iff.1 h
  unfold keyOf
  rw [List.take_succ_eq_append_getElem hk, List.flatMap_append, List.flatMap_cons, List.flatMap_nil, List.append_nil]
theorem bytesOf_snoc (y : Int) (j : Nat) : bytesOf y (j + 1) = bytesOf y j ++ [y / 256 ^ j % 256] := by simp [bytesOf, List.range_succ]
theorem keyOf_length (ws : List Int) : (keyOf ws).length = 8 * ws.length := by
  induction ws with
  | nil => rfl
  | cons y ws ih => simp [keyOf, bytesOf] at ih ⊢; omega

set_option maxRecDepth 100000 in
theorem key_calls (w : World) (A : Option Addr) (c : Nat) (ws : List Int) (hr : RI w .u64 A ws) (hw : ∀ y ∈ ws, 0 ≤ y ∧ y < 18446744073709551616) (hl : ws.length ≤ 128) :
    Calls Tryd.prog 44 #[.slice A ws.length c] w fun e w' => e = .returned (.string (strOfNums (keyOf ws))) ∧ Below w.heap.size w w' := by
  have HR := hid hr
  have HW := hid hw
  clear hr hw
  obtain ⟨m, hm⟩ : ∃ m, m = 8 * ws.length := ⟨_, rfl⟩
  have em : 8 * (ws.length : Int) = (m : Int) := by omega
  have hm1 : m ≤ 1024 := by omega
  have HM := hid hm
  clear hm
  have hmk := run_make_room (P := Tryd.prog) 131 5 (.int .u8 0) 1 Tryd.underlying131 Tryd.infoU8 rfl .i64 .i64 m (by omega) (by omega)
  go_enter Tryd.func44, Tryd.ntmps44
  go_wp2
  try rw [em]
  clear em hmk
  go_loopw [12, 3] (fun i v wr => ∃ k : Nat, k ≤ ws.length ∧ i = .int .i64 k ∧ wr.ownsRow w.heap.size 5 1 v (keyOf (ws.take k)).length ((keyOf (ws.take k)).map (Value.int .u8)) ∧ Below w.heap.size w wr) (fun i _ _ => ws.length - (intOf i).toNat)
  case atStart => exact ⟨0, Nat.zero_le _, rfl, ⟨by simp [keyOf], .inr ⟨_, m, _, rfl, Nat.le_refl _, heap_alloc_new w _, by simp [keyOf], by simp only [maxLen]; omega, by rw [← Array.length_toList, toList_madeCells_one]; simp, by simp [keyOf]⟩⟩, below_new w _⟩
  case round =>
    obtain ⟨k, hk, rfl, hown, hbl⟩ := hrel
    have HO := hid hown
    have HB := hid hbl
    clear hown hbl
    by_cases hlt : k < ws.length
    · obtain ⟨bA, oA, y, rfl, hyk, hc⟩ := (HR.out.below HB.out (Nat.le_refl _)).at_ hlt
      have hy := HW.out y (List.mem_of_getElem? hyk)
      have hy0 := hy.1
      have hy1 := hy.2
      have HYK := hid hyk
      clear hyk hy
      go_wp2
      obtain ⟨wo, rfl⟩ : ∃ wo : World, wo = wr := ⟨_, rfl⟩
      go_loopw [16, 5, 3] (fun i u v wr => ∃ j : Nat, j ≤ 8 ∧ i = .int .i64 j ∧ u = .int .u64 (y / 256 ^ j) ∧ wr.ownsRow w.heap.size 5 1 v (keyOf (ws.take k) ++ bytesOf y j).length ((keyOf (ws.take k) ++ bytesOf y j).map (Value.int .u8)) ∧ Below w.heap.size w wr) (fun i _ _ _ => 8 - (intOf i).toNat)
      case atStart => exact ⟨0, by omega, rfl, by simp, by simpa [bytesOf] using HO.out, HB.out⟩
      case round =>
        obtain ⟨j, hj, rfl, rfl, hown, hbl⟩ := hrel
        have HO2 := hid hown
        have HB2 := hid hbl
        clear hown hbl
        have hz0 : 0 ≤ y / 256 ^ j := Int.ediv_nonneg hy0 (Int.pow_nonneg (by omega))
        have hz1 : y / 256 ^ j < 18446744073709551616 := Int.lt_of_le_of_lt (Int.ediv_le_self _ hy0) hy1
        obtain ⟨z, hz⟩ : ∃ z, z = y / 256 ^ j := ⟨_, rfl⟩
        rw [← hz] at hz0 hz1 ⊢
        have HZ := hid hz
        clear hz
        by_cases hlt8 : j < 8
        · have hsz := HB2.out.size
          have hln : (keyOf (ws.take k) ++ bytesOf y j).length ≤ 2048 := by
            have := keyOf_length (ws.take k); simp [bytesOf] at this ⊢; omega
          go_wp2_with (at_builtin; refine append1 (w0 := w) w.heap.size (by rfl) (.tmp 18) (.tmp 21) 131 5 (.int .u8 0) 1 (by rfl) Tryd.underlying131 Tryd.infoU8 (by rfl) (by decide) _ _ _ _ (by rfl) (by rfl) (by rfl) HO2.out HB2.out hsz (by omega) ?_; intro v1 w1 o1 b1 g1 _)
          go_roundw
          case measure => simp [intOf]; omega
          case rel =>
            refine ⟨j + 1, by omega, by go_num, ?_, ?_, b1⟩
            · rw [HZ.out, Int.pow_succ, ← Int.ediv_ediv_of_nonneg (Int.pow_nonneg (by omega))]
            · rw [bytesOf_snoc, ← HZ.out]
              simpa [Nat.add_assoc] using o1
        · have hj8 : j = 8 := by omega
          have HJ := hid hj8
          clear hj8
          go_wp2
          go_roundw
          case measure => simp [intOf]; omega
          case rel =>
            refine ⟨k + 1, by omega, by go_num, ?_, HB2.out⟩
            have := HO2.out
            rw [HJ.out, ← keyOf_snoc ws k y HYK.out] at this
            exact this
    · have hk' : k = ws.length := by omega
      have HK := hid hk'
      clear hk'
      have hcv := own_convert Tryd.underlying131 Tryd.underlying5 Tryd.underlying9 HO.out
      go_wp2
      go_ret
      refine ⟨?_, HB.out⟩
      rw [HK.out, List.take_length]
      rfl
end Go.Proofs.YtapebbejdgeijaaDoor
