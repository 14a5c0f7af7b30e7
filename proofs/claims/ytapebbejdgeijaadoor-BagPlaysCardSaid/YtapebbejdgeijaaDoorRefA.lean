/- The reference bag: outside, Key. -/
import Derived.Test.YtapebbejdgeijaaDoorBagP
import Derived.Test.YtapebbejdgeijaaDoorRaw
import Derived.Test.YtapebbejdgeijaaDoorApp
namespace Go.Proofs.YtapebbejdgeijaaDoor
open Go.RowKit Go.Extern.Stop Go.Stop Go.Extern Go.Deep

set_option maxRecDepth 100000 in
theorem outside_calls (w : World) (b n : Nat) (A : Option Addr) (c : Nat) (xs : List Int) (hr : RI w .i64 A xs) (hb : w.cell? ⟨b, 0, none⟩ = some (.int .i64 n)) :
    Calls Tryd.prog 87 #[.pointer (some ⟨b, 0, none⟩), .slice A xs.length c] w fun e w' => e = .returned (.int .i64 (((firstBad n xs).map fun i : Nat => (i : Int)).getD (-1))) ∧ ∃ k, w' = w.drewN k := by
  have hmx := hr.1
  have HR := hid hr
  clear hr
  go_enter Tryd.func87, Tryd.ntmps87
  go_wp2
  go_loopw [5] (fun i wr => ∃ k m : Nat, k ≤ xs.length ∧ i = .int .i64 k ∧ wr = w.drewN m ∧ ∀ (j : Nat) (x : Int), j < k → xs[j]? = some x → 0 ≤ x ∧ x < n) (fun i _ => xs.length - (intOf i).toNat)
  case atStart => exact ⟨0, 0, Nat.zero_le _, rfl, rfl, fun j x hj => absurd hj (by omega)⟩
  case round =>
    obtain ⟨k, m, hk, rfl, rfl, hg⟩ := hrel
    have HG := hid hg
    clear hg
    by_cases hlt : k < xs.length
    · obtain ⟨bA, oA, x, rfl, hxk, hc⟩ := HR.out.at_ hlt
      have HXK := hid hxk
      clear hxk
      have i0 : (0 : Int) ≤ (k : Int) := by omega
      have i1 : (k : Int) < (xs.length : Int) := by omega
      by_cases hx : x < 0 ∨ (n : Int) ≤ x
      · have HX := hid hx
        rcases (show decide (x < 0) = true ∨ decide (x < 0) = false ∧ decide ((n : Int) ≤ x) = true by
          simp only [decide_eq_true_iff, decide_eq_false_iff_not]; omega) with hd | ⟨hd, hd2⟩
        all_goals
          clear hx
          go_wp2_with fail
          go_quiet (fail)
          go_wp2
          go_ret
          refine ⟨?_, _, World.drewN_drewN _ _ _⟩
          rw [firstBad_some HXK.out HX.out HG.out]
          rfl
      · have hx0 : 0 ≤ x := by omega
        have hx1 : x < n := by omega
        clear hx
        have hd : decide (x < 0) = false := decide_eq_false (by omega)
        have hd2 : decide ((n : Int) ≤ x) = false := decide_eq_false (by omega)
        go_wp2_with fail
        go_quiet (fail)
        go_wp2
        go_roundw
        case measure => simp [intOf]; omega
        case rel =>
          refine ⟨k + 1, _, by omega, by go_num, rfl, fun j z hj hz => ?_⟩
          rcases Nat.lt_or_ge j k with h | h
          · exact HG.out j z h hz
          · obtain rfl : j = k := by omega
            obtain rfl : z = x := Option.some.inj (hz.symm.trans HXK.out)
            exact ⟨hx0, hx1⟩
    · have hk' : k = xs.length := by omega
      have HK := hid hk'
      clear hk'
      go_wp2
      go_ret
      refine ⟨?_, _, rfl⟩
      rw [firstBad_none (fun j x hj => HG.out j x (by have := HK.out; have := (List.getElem?_eq_some_iff.1 hj).1; omega) hj)]
      rfl

/-! ### the reference's key -/
def two (x : Int) : List Int := [x / 256, x % 256]
def keyRI (l : List Int) : List Int := l.flatMap two
def keyR (l : List Int) : List UInt8 := (strOfNums (keyRI l)).data.toList
theorem keyRI_snoc (l : List Int) (k : Nat) (y : Int) (h : l[k]? = some y) : keyRI (l.take (k + 1)) = keyRI (l.take k) ++ two y := by
  obtain ⟨hk, rfl⟩ := List.getElem?_eq_some_iff.1 h
  unfold keyRI
  rw [List.take_succ_eq_append_getElem hk, List.flatMap_append, List.flatMap_cons, List.flatMap_nil, List.append_nil]
theorem keyRI_length (l : List Int) : (keyRI l).length = 2 * l.length := by
  induction l with
  | nil => rfl
  | cons y l ih => simp [keyRI, two] at ih ⊢; omega

set_option maxRecDepth 100000 in
theorem refKey_calls (w : World) (A : Option Addr) (c : Nat) (l : List Int) (hr : RI w .i64 A l) (hw : ∀ y ∈ l, 0 ≤ y ∧ y < 8192) (hl : l.length ≤ 8192) :
    Calls Tryd.prog 89 #[.slice A l.length c] w fun e w' => e = .returned (.string (strOfNums (keyRI l))) ∧ Below w.heap.size w w' := by
  have HR := hid hr
  have HW := hid hw
  clear hr hw
  obtain ⟨m, hm⟩ : ∃ m, m = 2 * l.length := ⟨_, rfl⟩
  have em : 2 * (l.length : Int) = (m : Int) := by omega
  have hm1 : m ≤ 16384 := by omega
  have HM := hid hm
  clear hm
  have hmk := run_make_room (P := Tryd.prog) 131 5 (.int .u8 0) 1 Tryd.underlying131 Tryd.infoU8 rfl .i64 .i64 m (by omega) (by omega)
  go_enter Tryd.func89, Tryd.ntmps89
  go_wp2
  try rw [em]
  clear em hmk
  go_loopw [4, 3] (fun i v wr => ∃ k q : Nat, k ≤ l.length ∧ i = .int .i64 k ∧ q = 2 * k ∧ wr.ownsRow w.heap.size 5 1 v q ((keyRI (l.take k)).map (Value.int .u8)) ∧ Below w.heap.size w wr) (fun i _ _ => l.length - (intOf i).toNat)
  case atStart => exact ⟨0, 0, Nat.zero_le _, rfl, rfl, ⟨by simp [keyRI], .inr ⟨_, m, _, rfl, Nat.le_refl _, heap_alloc_new w _, by simp, by simp only [maxLen]; omega, by rw [← Array.length_toList, toList_madeCells_one]; simp, by simp [keyRI]⟩⟩, below_new w _⟩
  case round =>
    obtain ⟨k, q, hk, rfl, hq, hown, hbl⟩ := hrel
    have HO := hid hown
    have HB := hid hbl
    clear hown hbl
    by_cases hlt : k < l.length
    · obtain ⟨bA, oA, y, rfl, hyk, hcw⟩ := HR.out.at_ hlt
      have hbA : bA < w.heap.size := World.block_lt_of_cell? w _ hcw
      have hc := (HB.out.cell (show bA < w.heap.size from hbA)).trans hcw
      have HCW := hid hcw
      clear hcw
      have hy := HW.out y (List.mem_of_getElem? hyk)
      have hy0 := hy.1
      have hy1 := hy.2
      have HYK := hid hyk
      clear hyk hy
      have hszk : w.heap.size ≤ wr.heap.size := HB.out.size
      have haplk : (q + 2) * 1 ≤ 140737488355328 := by omega
      go_wp2_with fail
      have HOd : Hid (wr.drew.ownsRow w.heap.size 5 1 u3 q ((keyRI (l.take k)).map (Value.int .u8))) := HO.out
      have HBd : Hid (Below w.heap.size w wr.drew) := Below.drew HB.out
      go_region_held_law (fun w' => w'.cell? ⟨bA, oA + k, none⟩ = some (.int .i64 y)) (first | go_keep | assumption)
        (first | (refine step_append (w0 := w) (W := wr.drew) w.heap.size rfl (.tmp 15) (.tmp 28) 131 5 (.int .u8 0) 1 rfl Tryd.underlying131 Tryd.infoU8 rfl (by decide) _ _ _ [_, _] 2 rfl rfl rfl (by simp [Value.oneCell']) HOd.out HBd.out hszk haplk ?_; intro v1 w1 o1 b1; have hcc := (b1.cell (show bA < w.heap.size from hbA)).trans HCW.out))
      go_wp2
      go_roundw
      case measure => simp [intOf]; omega
      case rel =>
        refine ⟨k + 1, q + 2, by omega, by go_num, by omega, ?_, b1⟩
        have f1 : IntKind.u8.wrap (IntKind.i64.wrap (y.tdiv 256)) = y / 256 := by
          rw [Int.tdiv_eq_ediv_of_nonneg hy0, IntKind.wrap_i64, IntKind.wrap_u8]; omega
        have f2 : IntKind.u8.wrap (y.tmod 256) = y % 256 := by
          rw [Int.tmod_eq_emod_of_nonneg hy0, IntKind.wrap_u8]; omega
        rw [f1, f2] at o1
        rw [keyRI_snoc l k y HYK.out, List.map_append]
        exact o1
    · have hk' : k = l.length := by omega
      have HK := hid hk'
      clear hk'
      have hcv := own_convert Tryd.underlying131 Tryd.underlying5 Tryd.underlying9 HO.out
      go_wp2
      go_ret
      refine ⟨?_, HB.out⟩
      rw [HK.out, List.take_length]
      rfl
end Go.Proofs.YtapebbejdgeijaaDoor
