/- edenraw: Copy, Ints, New. -/
import Derived.Test.YtapebbejdgeijaaDoorErrC
namespace Go.Proofs.YtapebbejdgeijaaDoor
open Go.RowKit Go.Extern.Stop Go.Stop Go.Extern Go.Deep

theorem Tryd.infoInt : (Tryd.prog.info? 3).map (fun i => (i.zero, i.size, i.bytes)) = some (some (.int .i64 0), 1, 8) := by kernel_rfl

theorem int_oneCell (k : IntKind) (xs : List Int) : ∀ u ∈ xs.map (Value.int k), u.oneCell' = true := fun u hu => by
  obtain ⟨x, _, rfl⟩ := List.mem_map.1 hu
  rfl

theorem take_next {xs ys : List Int} {k : Nat} {x y : Int} (h : xs.take k = ys.take k) (hx : xs[k]? = some x) (hy : ys[k]? = some y) (hxy : x = y) : xs.take (k + 1) = ys.take (k + 1) := by
  obtain ⟨h1, rfl⟩ := List.getElem?_eq_some_iff.1 hx
  obtain ⟨h2, rfl⟩ := List.getElem?_eq_some_iff.1 hy
  rw [List.take_succ_eq_append_getElem h1, List.take_succ_eq_append_getElem h2, h, hxy]

set_option maxRecDepth 100000 in
theorem rawInts_calls (w : World) (A A' : Option Addr) (c c' : Nat) (xs ys : List Int) (hx : RI w .i64 A xs) (hy : RI w .i64 A' ys) :
    Calls Tryd.prog 20 #[.slice A xs.length c, .slice A' ys.length c'] w fun e w' => e = .returned (.bool (decide (xs = ys))) ∧ ∃ n, w' = w.drewN n := by
  have hmx := hx.1
  have hmy := hy.1
  have HX := hid hx
  have HY := hid hy
  clear hx hy
  by_cases hl : xs.length = ys.length
  · have hb : ((xs.length : Int) != (ys.length : Int)) = false := by simp; omega
    have hle : xs.length ≤ ys.length := by omega
    have HL := hid hl
    clear hl
    go_enter Tryd.func20, Tryd.ntmps20
    go_wp2
    clear hb
    go_loopw [5] (fun i wr => ∃ k n : Nat, k ≤ xs.length ∧ i = .int .i64 k ∧ wr = w.drewN n ∧ xs.take k = ys.take k) (fun i _ => xs.length - (intOf i).toNat)
    case atStart => exact ⟨0, 0, Nat.zero_le _, rfl, rfl, rfl⟩
    case round =>
      obtain ⟨k, n, hk, rfl, rfl, ht⟩ := hrel
      have HT := hid ht
      clear ht
      by_cases hlt : k < xs.length
      · obtain ⟨b1, o1, x, rfl, hxk, hc1⟩ := HX.out.at_ hlt
        obtain ⟨b2, o2, y, rfl, hyk, hc2⟩ := HY.out.at_ (show k < ys.length by omega)
        have HXK := hid hxk
        have HYK := hid hyk
        clear hxk hyk
        have i0 : (0 : Int) ≤ (k : Int) := by omega
        have i1 : (k : Int) < (xs.length : Int) := by omega
        have i2 : (k : Int) < (ys.length : Int) := by omega
        by_cases hxy : x = y
        · have hb : (x != y) = false := by simp [hxy]
          have HXY := hid hxy
          clear hxy
          go_wp2_with fail
          go_quiet (fail)
          go_wp2
          go_roundw
          case measure => simp [intOf]; omega
          case rel => exact ⟨k + 1, _, by omega, by go_num, rfl, take_next HT.out HXK.out HYK.out HXY.out⟩
        · have hb : (x != y) = true := by simp [hxy]
          have HXY := hid hxy
          clear hxy
          go_wp2_with fail
          go_quiet (fail)
          go_wp2
          go_ret
          refine ⟨?_, _, World.drewN_drewN _ _ _⟩
          have : ¬ xs = ys := fun e => by
            subst e
            exact HXY.out (Option.some.inj (HXK.out.symm.trans HYK.out))
          simp [this]
      · have hk' : k = xs.length := by omega
        have HK := hid hk'
        clear hk'
        go_wp2
        go_ret
        refine ⟨?_, _, rfl⟩
        have h := HT.out
        rw [HK.out, List.take_length, List.take_of_length_le (by have := HL.out; omega)] at h
        simp [h]
  · have hb : ((xs.length : Int) != (ys.length : Int)) = true := by simp; omega
    have HL := hid hl
    clear hl
    go_enter Tryd.func20, Tryd.ntmps20
    go_wp2
    go_ret
    refine ⟨?_, 0, rfl⟩
    have : ¬ xs = ys := fun e => HL.out (by rw [e])
    simp [this]

set_option maxRecDepth 100000 in
theorem rawCopy_calls (w : World) (A : Option Addr) (c : Nat) (xs : List Int) (hx : RI w .i64 A xs) (hA : A = none → c = 0) (hl : xs.length * 8 ≤ 140737488355328) :
    Calls Tryd.prog 12 #[.slice A xs.length c] w fun e w' => ∃ v, e = .returned v ∧ w'.ownsRow w.heap.size 3 1 v xs.length (xs.map (Value.int .i64)) ∧ Below w.heap.size w w' := by
  have HX := hid hx
  have HAA := hid hA
  clear hx hA
  go_enter Tryd.func12, Tryd.ntmps12
  have hb := below_new w (.cells #[] 3)
  have ho : (w.alloc (.cells #[] 3)).ownsRow w.heap.size 3 1 (.slice (some ⟨w.heap.size, 0, none⟩) 0 0) 0 [] := own_lit [] 3 0 rfl (by omega)
  have HB := hid hb
  have HO := hid ho
  clear hb ho
  have hsz : w.heap.size ≤ (w.alloc (.cells #[] 3)).heap.size := by simp
  have hll : (xs.map (Value.int .i64)).length = xs.length := by simp
  have HLL := hid hll
  clear hll
  go_wp2_with (at_builtin; refine appendN (w0 := w) w.heap.size (by rfl) (.tmp 3) (.tmp 4) 22 3 (.int .i64 0) 8 (by rfl) Tryd.underlying22 Tryd.infoInt (by rfl) (by decide) _ 0 [] A c (xs.map (Value.int .i64)) (by rfl) (by rw [HLL.out]; rfl) (int_oneCell _ _) HAA.out (HX.out.below HB.out (Nat.le_refl _)).cells HO.out HB.out hsz (by rw [HLL.out]; omega) ?_; intro v1 w1 o1 b1 g1 _)
  go_ret
  refine ⟨_, rfl, ?_, b1⟩
  rw [HLL.out] at o1
  simpa using o1

theorem Tryd.infoStr : (Tryd.prog.info? 9).map (fun i => (i.zero, i.size, i.bytes)) = some (some (.string ByteArray.empty), 1, 16) := by kernel_rfl

set_option maxRecDepth 100000 in
theorem rawNew_calls (w : World) (op : ByteArray) (at_ n : Int) :
    Calls Tryd.prog 15 #[.string op, .int .i64 at_, .int .i64 n] w fun e w' => ∃ v, e = .returned v ∧ ErrVal w' w.heap.size v n [(op, at_)] ∧ Below w.heap.size w w' := by
  go_enter Tryd.func15, Tryd.ntmps15
  go_wp2
  refine bodyPost_ret (v := .agg #[.int .i64 n, .slice (some ⟨w.heap.size + 1, 0, none⟩) 1 1, .slice (some ⟨w.heap.size + 1 + 1, 0, none⟩) 1 1]) (by simp [results, Tryd.results15, go_sem]) rfl ?_
  refine ⟨_, rfl, ⟨_, _, rfl, ?_, ?_⟩, (((Below.refl _ _).alloc (Nat.le_refl _) _).alloc (by simp) _).alloc (by simp; omega) _⟩
  · refine own_block (cs := [.string op]) ?_ 1 rfl (by omega) (by omega)
    rw [heap_alloc_lt _ _ _ (by simp), heap_alloc_at _ _ _ (by simp)]
  · refine own_block (cs := [.int .i64 at_]) ?_ 1 rfl (by omega) (by omega)
    rw [heap_alloc_at _ _ _ (by simp)]
end Go.Proofs.YtapebbejdgeijaaDoor
