/- slices.Equal; package forms: inner. -/
import Derived.Test.YtapebbejdgeijaaDoorFormC
namespace Go.Proofs.YtapebbejdgeijaaDoor
open Go.RowKit Go.Extern.Stop Go.Stop Go.Extern Go.Deep

set_option maxRecDepth 100000 in
theorem equalI_calls (w : World) (A A' : Option Addr) (c c' : Nat) (xs ys : List Int) (hx : RI w .i64 A xs) (hy : RI w .i64 A' ys) :
    Calls Tryd.prog 64 #[.slice A xs.length c, .slice A' ys.length c'] w fun e w' => e = .returned (.bool (decide (xs = ys))) ∧ ∃ n, w' = w.drewN n := by
  have hmx := hx.1
  have hmy := hy.1
  have HX := hid hx
  have HY := hid hy
  clear hx hy
  by_cases hl : xs.length = ys.length
  · have hb : ((xs.length : Int) != (ys.length : Int)) = false := by simp; omega
    have hle : xs.length ≤ ys.length := by omega
    have HL := hid hl
    clear hl
    go_enter Tryd.func64, Tryd.ntmps64
    go_wp2
    clear hb
    go_loopw [13] (fun i wr => ∃ k n : Nat, k ≤ xs.length ∧ i = .int .i64 k ∧ wr = w.drewN n ∧ xs.take k = ys.take k) (fun i _ => xs.length - (intOf i).toNat)
    case atStart => exact ⟨0, 0, Nat.zero_le _, rfl, rfl, rfl⟩
    case round =>
      obtain ⟨k, n, hk, rfl, rfl, ht⟩ := hrel
      have HT := hid ht
      clear ht
      by_cases hlt : k < xs.length
      · obtain ⟨b1, o1, x, rfl, hxk, hc1⟩ := HX.out.at_ hlt
        obtain ⟨b2, o2, y, rfl, hyk, hc2⟩ := HY.out.at_ (show k < ys.length by omega)
        have HXK := hid hxk
        have HYK := hid hyk
        clear hxk hyk
        have i0 : (0 : Int) ≤ (k : Int) := by omega
        have i1 : (k : Int) < (xs.length : Int) := by omega
        have i2 : (k : Int) < (ys.length : Int) := by omega
        by_cases hxy : x = y
        · have hb : (x != y) = false := by simp [hxy]
          have HXY := hid hxy
          clear hxy
          go_wp2_with fail
          go_quiet (fail)
          go_wp2
          go_roundw
          case measure => simp [intOf]; omega
          case rel => exact ⟨k + 1, _, by omega, by go_num, rfl, take_next HT.out HXK.out HYK.out HXY.out⟩
        · have hb : (x != y) = true := by simp [hxy]
          have HXY := hid hxy
          clear hxy
          go_wp2_with fail
          go_quiet (fail)
          go_wp2
          go_ret
          refine ⟨?_, _, World.drewN_drewN _ _ _⟩
          have : ¬ xs = ys := fun e => by
            subst e
            exact HXY.out (Option.some.inj (HXK.out.symm.trans HYK.out))
          simp [this]
      · have hk' : k = xs.length := by omega
        have HK := hid hk'
        clear hk'
        go_wp2
        go_ret
        refine ⟨?_, _, rfl⟩
        have h := HT.out
        rw [HK.out, List.take_length, List.take_of_length_le (by have := HL.out; omega)] at h
        simp [h]
  · have hb : ((xs.length : Int) != (ys.length : Int)) = true := by simp; omega
    have HL := hid hl
    clear hl
    go_enter Tryd.func64, Tryd.ntmps64
    go_wp2
    go_ret
    refine ⟨?_, 0, rfl⟩
    have : ¬ xs = ys := fun e => HL.out (by rw [e])
    simp [this]

theorem Tryd.entersInnerC : Enters Tryd.prog 106 := enters_of Tryd.func106 (by kernel_rfl) rfl

set_option maxRecDepth 100000 in
theorem innerC_calls (w : World) (k R : Nat) (hk1 : 1 ≤ k) (hk4 : k ≤ 4) (hR : R + 1 ≤ 3) (A : Option Addr) (m c : Nat) (T : List Int) (hm : m = T.length) (hT : T.length = sz k (R + 1)) (hr : RI w .i64 A T)
    (b : Nat) (hb : Cell3 w b 57 (.int .i64 k) (.int .i64 (R + 1 : Nat)) (.slice A m c)) (g i : Nat) (hi : i < sz k R) (hg : RI w .i64 (some ⟨g, 0, none⟩) (ints (digs k (2 * R + 1) i))) :
    Calls Tryd.prog 106 #[.slice (some ⟨g, 0, none⟩) (2 * R + 1) (2 * R + 1), .pointer (some ⟨b, 0, none⟩)] w fun e w' => e = .returned (.int .i64 (T.getD (i * k) 0)) ∧ Below w.heap.size w w' := by
  obtain ⟨n, hn⟩ : ∃ n, n = 2 * R + 1 := ⟨_, rfl⟩
  rw [← hn] at hg ⊢
  have hn5 : n ≤ 5 := by omega
  obtain ⟨q, hq⟩ : ∃ q, q = n + 2 := ⟨_, rfl⟩
  have em : (n : Int) + 2 = (q : Int) := by omega
  have hq1 : ¬ q = 1 := by omega
  have hqn : n < q := by omega
  have hmk := run_make_row' (P := Tryd.prog) 22 3 (.int .i64 0) 8 Tryd.underlying22 Tryd.infoInt rfl .i64 .i64 q (by omega) (by omega)
  have hnum : num k (0 :: digs k n i ++ [0]) = i * k := by
    rw [List.cons_append, num_cons, Nat.zero_mul, Nat.zero_add, num_snoc, Nat.add_zero, num_digs, hn, Nat.mod_eq_of_lt (show i < k ^ (2 * R + 1) from hi)]
  have hlt : i * k < T.length := by
    rw [hT, sz_succ]
    exact Nat.lt_of_lt_of_le (Nat.mul_lt_mul_of_pos_right hi hk1) (Nat.le_mul_of_pos_right _ hk1)
  have HX : Hid (T[num k (0 :: digs k n i ++ [0])]? = some (T.getD (i * k) 0)) := by
    show _ = _
    rw [hnum]
    exact getD_some hlt
  have HD : Hid (∀ x ∈ 0 :: digs k n i ++ [0], x < k) := fun x hx => by
    rcases List.mem_append.1 hx with hx | hx
    · rcases List.mem_cons.1 hx with hx | hx
      · omega
      · exact digs_lt hk1 _ _ _ hx
    · rw [List.mem_singleton.1 hx]; omega
  have HDL : Hid ((digs k n i).length = n) := digs_length _ _ _
  have HL : Hid (q = (0 :: digs k n i ++ [0]).length) := by
    show _ = _
    simp [digs_length]; omega
  have HG : Hid ((w.alloc (.cells (madeCells #[.int .i64 0] q) 3)).heap[w.heap.size]? = some (.cells (List.replicate q (Value.int .i64 0)).toArray 3 (0, 0))) := by
    have h := heap_alloc_new w (.cells (madeCells #[.int .i64 0] q) 3)
    have e : madeCells #[Value.int .i64 0] q = (List.replicate q (Value.int .i64 0)).toArray := Array.ext' (by rw [toList_madeCells_one])
    show _ = _
    rw [h, e]
  have HB : Hid (Below w.heap.size w (w.alloc (.cells (madeCells #[.int .i64 0] q) 3))) := below_new _ _
  have HQ := hid hq
  have HR := hid hr
  have HRG := hid hg
  have HM := hid hm
  have HC := hid hb
  generalize T.getD (i * k) 0 = x at *
  generalize digs k n i = ds at *
  have HN : Hid (((ints ds).map (Value.int .i64)).length = Nat.min n (q - 1)) := by
    show _ = _
    rw [List.length_map, List.length_map, HDL.out, HQ.out]
    exact (Nat.min_eq_left (by omega)).symm
  have HF : Hid (1 + ((ints ds).map (Value.int .i64)).length ≤ (List.replicate q (Value.int .i64 0)).length) := by
    show _ ≤ _
    rw [List.length_map, List.length_map, List.length_replicate, HDL.out, HQ.out]; omega
  have HSP : Hid (splice (List.replicate q (Value.int .i64 0)) 1 ((ints ds).map (Value.int .i64)) = (ints (0 :: ds ++ [0])).map (Value.int .i64)) := by
    show _ = _
    rw [HQ.out]
    unfold splice
    rw [show n + 2 = (n + 1) + 1 by omega, List.replicate_succ, List.length_map, List.length_map, HDL.out]
    rw [show 1 + n = n + 1 by omega, List.drop_succ_cons, List.drop_replicate, show n + 1 - n = 1 by omega]
    simp [ints]
  clear hg hr hm hT hb hlt hi hnum hq hn
  have hq7 : q ≤ 7 := by omega
  go_enter Tryd.func106, Tryd.ntmps106
  go_wp2_with (refine wpList_copy_splice (by rfl) (.tmp 10) (.tmp 11) 22 22 (by rfl) 3 Tryd.underlying22 intSize _ _ _ _ _ _ (by rfl) (by rfl) w.heap.size 1 _ 3 HG.out ((ints ds).map (Value.int .i64)) HN.out (HRG.out.below HB.out (Nat.le_refl _)).copy HF.out (int_oneCell _ _) w.heap.size w HB.out (Nat.le_refl _) ?_; intro w4 hg4 hb4; have HG4 := hid hg4.out; have HB4 := hid hb4; obtain ⟨k0, k1, k2⟩ := cells3 (HC.out.below hb4); clear hg4 hb4)
  have HRI := hid (ri_block (xs := ints (0 :: ds ++ [0])) (k := .i64) (by rw [← HSP.out]; exact HG4.out) (by rw [List.length_map, ← HL.out]; omega))
  refine (symbol_calls w4 k hk1 hk4 _ A m c T HM.out (HR.out.below HB4.out (Nat.le_refl _)) (some ⟨w.heap.size, 0, none⟩) q q (0 :: ds ++ [0]) HL.out HRI.out HD.out (by rw [← HL.out]; exact hq7) x HX.out).mono ?_
  rintro e w5 ⟨rfl, hb⟩
  go_wp2_with fail
  go_ret
  exact ⟨rfl, below_then HB4.out hb HB4.out.size⟩
end Go.Proofs.YtapebbejdgeijaaDoor
