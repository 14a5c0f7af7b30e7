/- bag: Has, Union. -/
import Derived.Test.YtapebbejdgeijaaDoorBagP
namespace Go.Proofs.YtapebbejdgeijaaDoor
open Go.RowKit Go.Extern.Stop Go.Stop Go.Extern Go.Deep

theorem u64_oneCell (xs : List Int) : ∀ u ∈ xs.map (Value.int .u64), u.oneCell' = true := fun u hu => by
  obtain ⟨x, _, rfl⟩ := List.mem_map.1 hu
  rfl

set_option maxRecDepth 100000 in
theorem clone64_calls (w : World) (base n : Nat) (v : Value) (ws : List Int) (ho : w.ownsRow base 88 1 v n (ws.map (Value.int .u64))) (hn : n ≤ 4096) :
    Calls Tryd.prog 90 #[v] w fun e w' => ∃ v', e = .returned v' ∧ w'.ownsRow w.heap.size 88 1 v' n (ws.map (Value.int .u64)) ∧ Below w.heap.size w w' := by
  have hwl : ws.length = n := by have := ho.1; simpa using this
  have HWL := hid hwl
  clear hwl
  have hq := fun (w : World) (a : Option Addr) (n c n' c' : Nat) => Lib.run_eql_slice_nil (P := Tryd.prog) w _ _ a n c n' c' Tryd.underlying83
  rcases ho.2 with ⟨rfl, h0⟩ | ⟨g, cap, cur, rfl, _⟩
  · obtain rfl : n = 0 := h0
    clear ho
    go_enter Tryd.func90, Tryd.ntmps90
    go_wp2
    go_ret
    refine ⟨_, rfl, ?_, Below.refl _ _⟩
    rw [List.eq_nil_of_length_eq_zero HWL.out]
    exact World.ownsRow_nil _ _ _ _
  · obtain ⟨A, c, hv, hc, hm, hri⟩ := own_ri ho
    simp only [Value.slice.injEq] at hv
    obtain ⟨rfl, -, rfl⟩ := hv
    have HX := hid hri
    clear hri ho hm hc
    go_enter Tryd.func90, Tryd.ntmps90
    have HB : Hid (Below w.heap.size w (w.alloc (.cells #[] 88))) := below_new w (.cells #[] 88)
    have HO : Hid ((w.alloc (.cells #[] 88)).ownsRow w.heap.size 88 1 (.slice (some ⟨w.heap.size, 0, none⟩) 0 0) 0 []) := own_lit [] 88 0 rfl (by omega)
    have hsz : w.heap.size ≤ (w.alloc (.cells #[] 88)).heap.size := by simp
    have HLL : Hid ((ws.map (Value.int .u64)).length = n) := by rw [List.length_map]; exact HWL.out
    go_wp2_with (at_builtin; refine appendN (w0 := w) w.heap.size (by rfl) (.tmp 5) (.tmp 6) 83 88 (.int .u64 0) 8 (by rfl) Tryd.underlying83 Tryd.infoU64 (by rfl) (by decide) _ 0 [] (some ⟨g, 0, none⟩) cap (ws.map (Value.int .u64)) (by rfl) (by rw [HLL.out]; rfl) (u64_oneCell _) (fun e => absurd e (by simp)) (HX.out.below HB.out (Nat.le_refl _)).cells HO.out HB.out hsz (by rw [HLL.out]; omega) ?_; intro v1 w1 o1 b1 g1 _)
    go_ret
    refine ⟨_, rfl, ?_, b1⟩
    rw [HLL.out] at o1
    simpa using o1

set_option maxRecDepth 100000 in
theorem Has_ok (w : World) (base b r n : Nat) (sets : List (List Int)) (hbag : BagAt w base b r n sets) (k : Nat) (ws : List Int) (hk : sets[k]? = some ws) (x : Int) :
    Calls Tryd.prog 52 #[.pointer (some ⟨b, 0, none⟩), .int .i64 k, .int .i64 x] w fun e w' => e = .returned (.tuple #[.bool (decide (x ∈ members n ws)), .nilIface]) ∧ Below w.heap.size w w' := by
  obtain ⟨hbase, hbl, hn, hc0⟩ := hbag.facts
  have HBAG := hid hbag
  have HK := hid hk
  have HRNG : Hid (∀ y ∈ ws, 0 ≤ y ∧ y < 18446744073709551616) := by
    obtain ⟨vs, rows, h⟩ := hbag
    exact h.rng ws (List.mem_of_getElem? hk)
  clear hbag hk
  by_cases hx : x < 0 ∨ (n : Int) ≤ x
  · have HD : Hid (decide (x ∈ members n ws) = false) := by
      refine decide_eq_false fun h => ?_
      have := members_range x h
      omega
    rcases hx with hx | hx
    all_goals
      go_enter Tryd.func52, Tryd.ntmps52
      go_wp2_with fail
      refine (bagSet_ok w base b r n sets HBAG.out k ws HK.out 0).mono ?_
      rintro e w1 ⟨v, rfl, hown, rfl⟩
      clear hown
      go_wp2_with fail
      go_ret2
      rw [HD.out]
      exact ⟨rfl, Below.refl _ _⟩
  · obtain ⟨q, rfl⟩ := Int.eq_ofNat_of_zero_le (show 0 ≤ x by omega)
    have hqn : q < n := by omega
    go_enter Tryd.func52, Tryd.ntmps52
    go_wp2_with fail
    refine (bagSet_ok w base b r n sets HBAG.out k ws HK.out 0).mono ?_
    rintro e w1 ⟨v, rfl, hown, rfl⟩
    obtain ⟨A1, c1, hv, hc1, hm1, hri⟩ := own_ri hown
    subst hv
    have HM1 := hid hm1
    have hjl : q / 64 < ws.length := by omega
    obtain ⟨bA, oA, y, hA, hyk, hc⟩ := hri.at_ hjl
    subst hA
    have hy := HRNG.out y (List.mem_of_getElem? hyk)
    have hy0 := hy.1
    have hy1 := hy.2
    have HMB := hid (memb_bit (j := q) hyk hy0 hy1)
    clear hyk hy hown hri hm1 hx
    go_wp2_with fail
    go_ret2
    refine ⟨?_, Below.refl _ _⟩
    have e : decide ((q : Int) ∈ members n ws) = memb ws q := by
      rw [Bool.eq_iff_iff, decide_eq_true_iff, mem_members]
      constructor
      · rintro ⟨p, _, h2, h3⟩
        obtain rfl : p = q := by omega
        exact h2
      · intro h; exact ⟨q, hqn, h, rfl⟩
    rw [e, ← HMB.out]
    rfl

set_option maxRecDepth 100000 in
theorem Has_err (B : Nat) (S : Nat → Addr) (w : World) (hE : Env B S w) (base b r n : Nat) (sets : List (List Int)) (hbag : BagAt w base b r n sets) (k : Int) (hk : k < 0 ∨ (sets.length : Int) ≤ k) (x : Int) :
    Calls Tryd.prog 52 #[.pointer (some ⟨b, 0, none⟩), .int .i64 k, .int .i64 x] w fun e w' => ∃ v, e = .returned (.tuple #[.bool false, v]) ∧ Chain S w' v (rootIx 3) [(opBag, 0)] ∧ Below w.heap.size w w' := by
  have HE := hid hE
  have HBAG := hid hbag
  clear hE hbag
  go_enter Tryd.func52, Tryd.ntmps52
  go_wp2_with fail
  refine (bagSet_err B S w HE.out base b r n sets HBAG.out k hk 0).mono ?_
  rintro e w1 ⟨v, rfl, hch, hb⟩
  obtain ⟨t, a, rfl⟩ := hch.form
  have HC := hid hch
  clear hch
  go_wp2_with fail
  go_ret2
  exact ⟨_, rfl, HC.out, hb⟩

set_option maxRecDepth 100000 in
theorem Has_nil (B : Nat) (S : Nat → Addr) (w : World) (hE : Env B S w) (k x : Int) :
    Calls Tryd.prog 52 #[.pointer none, .int .i64 k, .int .i64 x] w fun e w' => ∃ v, e = .returned (.tuple #[.bool false, v]) ∧ Chain S w' v (rootIx 11) [(opBag, 0)] ∧ Below w.heap.size w w' := by
  have HE := hid hE
  clear hE
  go_enter Tryd.func52, Tryd.ntmps52
  go_wp2_with fail
  refine (bagSet_nil B S w HE.out k 0).mono ?_
  rintro e w1 ⟨v, rfl, hch, hb⟩
  obtain ⟨t, a, rfl⟩ := hch.form
  have HC := hid hch
  clear hch
  go_wp2_with fail
  go_ret2
  exact ⟨_, rfl, HC.out, hb⟩

/-! ### the union of two sets, as words -/
def orWords (x y : List Int) : List Int := List.zipWith (bits .or .u64) x y
theorem orWords_range (x y : List Int) : ∀ z ∈ orWords x y, 0 ≤ z ∧ z < 18446744073709551616 := by
  intro z hz
  unfold orWords at hz
  obtain ⟨i, hi, rfl⟩ := List.getElem_of_mem hz
  rw [List.getElem_zipWith]
  exact bits_u64_range _ _ _
def orFront (x y : List Int) (k : Nat) : List Int := orWords (x.take k) (y.take k) ++ x.drop k
theorem orFront_zero (x y : List Int) : orFront x y 0 = x := by simp [orFront, orWords]
theorem orFront_full (x y : List Int) (h : x.length = y.length) : orFront x y x.length = orWords x y := by
  unfold orFront
  rw [List.take_length, h, List.take_length, ← h, List.drop_length, List.append_nil]
theorem orFront_at (x y : List Int) (k : Nat) (hx : k < x.length) (hy : k < y.length) : (orFront x y k)[k]? = some x[k] := by
  unfold orFront
  have e : (orWords (x.take k) (y.take k)).length = k := by simp [orWords]; omega
  rw [List.getElem?_append_right (by omega), e, Nat.sub_self, List.getElem?_drop, Nat.add_zero, List.getElem?_eq_getElem hx]
theorem orFront_succ (x y : List Int) (k : Nat) (hx : k < x.length) (hy : k < y.length) : orFront x y (k + 1) = (orFront x y k).set k (bits .or .u64 x[k] y[k]) := by
  unfold orFront
  have e : (orWords (x.take k) (y.take k)).length = k := by simp [orWords]; omega
  rw [List.set_append_right _ _ (by omega), e, Nat.sub_self, List.drop_eq_getElem_cons hx, List.set_cons_zero]
  unfold orWords
  rw [List.take_succ_eq_append_getElem hx, List.take_succ_eq_append_getElem hy, List.zipWith_append (by simp; omega)]
  simp

set_option maxRecDepth 100000 in
theorem Union_ok (B : Nat) (S : Nat → Addr) (w : World) (hE : Env B S w) (base b r n : Nat) (sets : List (List Int)) (hbag : BagAt w base b r n sets) (i j : Nat) (xi xj : Int) (hxi : xi = i) (hxj : xj = j) (x y : List Int) (hi : sets[i]? = some x) (hj : sets[j]? = some y) :
    Calls Tryd.prog 54 #[.pointer (some ⟨b, 0, none⟩), .int .i64 xi, .int .i64 xj] w (PutPost S base b r n sets (orWords x y) w) := by
  subst hxi
  subst hxj
  obtain ⟨hbase, hbl, hn, hc0⟩ := hbag.facts
  have HBAG := hid hbag
  have HI := hid hi
  have HJ := hid hj
  have HE := hid hE
  clear hbag hi hj hE
  go_enter Tryd.func54, Tryd.ntmps54
  go_wp2_with fail
  refine (bagSet_ok w base b r n sets HBAG.out i x HI.out 0).mono ?_
  rintro e w1 ⟨v, rfl, hown, rfl⟩
  obtain ⟨A1, c1, hv, hc1, hm1, hri⟩ := own_ri hown
  subst hv
  have HM1 := hid hm1
  have HO1 := hid hown
  clear hown hri hm1
  go_wp2_with fail
  refine (bagSet_ok w base b r n sets HBAG.out j y HJ.out 1).mono ?_
  rintro e w1 ⟨v, rfl, hown, rfl⟩
  obtain ⟨A2, c2, hv, hc2, hm2, hri⟩ := own_ri hown
  subst hv
  have HM2 := hid hm2
  have HR2 := hid hri
  clear hown hri hm2
  have HL : Hid (x.length = y.length) := HM1.out.trans HM2.out.symm
  have hyl : y.length ≤ 128 := by have := HM2.out; omega
  go_wp2_with fail
  refine (clone64_calls w base _ _ x HO1.out (by omega)).mono ?_
  rintro e w3 ⟨v3, rfl, hown3, hb3⟩
  obtain ⟨A3, c3, rfl, hc3, _⟩ := own_slice hown3
  have HO3 := hid hown3
  have HB3 := hid hb3
  clear hown3 hb3
  obtain ⟨m, hm⟩ : ∃ m, m = y.length := ⟨_, rfl⟩
  have HMM := hid hm
  rw [← hm]
  have hyl2 : m ≤ 128 := by omega
  clear hm hyl
  obtain ⟨m3, hm3⟩ : ∃ m3, m3 = (n + 63) / 64 := ⟨_, rfl⟩
  have hm3m : m3 = m := by rw [hm3, HMM.out]; exact HM2.out.symm
  rw [← hm3, hm3m]
  have HO4 : Hid (w3.ownsRow w.heap.size 88 1 (.slice A3 m c3) m (x.map (Value.int .u64))) := by have := HO3.out; rw [← hm3, hm3m] at this; exact this
  clear hm3 hm3m HO3 hc3
  go_wp2_with fail
  go_loopw [37] (fun k wr => ∃ q : Nat, q ≤ m ∧ k = .int .i64 q ∧ wr.ownsRow w.heap.size 88 1 (.slice A3 m c3) m ((orFront x y q).map (Value.int .u64)) ∧ Below w.heap.size w wr) (fun k _ => m - (intOf k).toNat)
  case atStart => exact ⟨0, Nat.zero_le _, rfl, by rw [orFront_zero]; exact HO4.out, HB3.out⟩
  case round =>
    obtain ⟨q, hq, rfl, ho, hb⟩ := hrel
    have HO := hid ho
    have HB := hid hb
    clear ho hb
    by_cases hlt : q < m
    · have hqx : q < x.length := by have := HMM.out; have := HL.out; omega
      have hqy : q < y.length := by have := HMM.out; omega
      obtain ⟨bA, oA, yk, hA, hyk, hc⟩ := (HR2.out.below HB.out (Nat.le_refl _)).at_ hqy
      subst hA
      obtain ⟨g, cap, hv, hg, _, _, _⟩ := own_form HO.out (by omega)
      simp only [Value.slice.injEq, true_and] at hv
      obtain ⟨rfl, rfl⟩ := hv
      have hcx : wr.cell? ⟨g, q, none⟩ = some (.int .u64 x[q]) := by
        rw [HO.out.cellAt _ (by omega)]
        simp [orFront_at x y q hqx hqy]
      have hfz := HO.out.frozenAt q
      have HYK := hid hyk
      obtain ⟨xk, hxk⟩ : ∃ xk, x[q]? = some xk := ⟨_, List.getElem?_eq_getElem hqx⟩
      rw [show x[q] = xk from (List.getElem?_eq_some_iff.1 hxk).2] at hcx
      have HXK := hid hxk
      clear hyk hxk
      clear hqx hqy
      go_wp2_with fail
      go_roundw
      case measure => simp [intOf]; omega
      case rel =>
        refine ⟨q + 1, by omega, by go_num, ?_, Below.setCell HB.out (HO.out.lt g rfl).1 _⟩
        obtain ⟨hqx, hxe⟩ := List.getElem?_eq_some_iff.1 HXK.out
        obtain ⟨hqy, hye⟩ := List.getElem?_eq_some_iff.1 HYK.out
        rw [orFront_succ x y q hqx hqy, List.map_set, hxe, hye]
        exact own_set HO.out _ _
    · obtain rfl : q = m := by omega
      have HO5 : Hid (wr.ownsRow w.heap.size 88 1 (.slice A3 q c3) q ((orWords x y).map (Value.int .u64))) := by
        have := HO.out
        rw [show orFront x y q = orWords x y by rw [HMM.out, ← HL.out]; exact orFront_full x y HL.out] at this
        exact this
      have HQ : Hid (q = (n + 63) / 64) := HMM.out.trans HM2.out
      go_wp2_with fail
      refine (put_calls B S _ (HE.out.below' HB.out) base b r n sets (orWords x y) _ (HBAG.out.below HB.out) (own_base (by rw [← HQ.out]; exact HO5.out) hbase) (orWords_range x y)).mono ?_
      rintro e w2 hp
      obtain ⟨k, f, v, rfl⟩ := hp.ret
      have HP := hid hp
      clear hp
      go_wp2_with fail
      go_ret3
      exact HP.out.after HB.out hbase

set_option maxRecDepth 100000 in
theorem Union_err0 (B : Nat) (S : Nat → Addr) (w : World) (hE : Env B S w) (base b r n : Nat) (sets : List (List Int)) (hbag : BagAt w base b r n sets) (xi xj : Int) (hk : xi < 0 ∨ (sets.length : Int) ≤ xi) :
    Calls Tryd.prog 54 #[.pointer (some ⟨b, 0, none⟩), .int .i64 xi, .int .i64 xj] w fun e w' => ∃ v, e = .returned (.tuple #[.int .i64 0, .bool false, v]) ∧ Chain S w' v (rootIx 3) [(opBag, 0)] ∧ Below w.heap.size w w' := by
  have HE := hid hE
  have HBAG := hid hbag
  clear hE hbag
  go_enter Tryd.func54, Tryd.ntmps54
  go_wp2_with fail
  refine (bagSet_err B S w HE.out base b r n sets HBAG.out xi hk 0).mono ?_
  rintro e w1 ⟨v, rfl, hch, hb⟩
  obtain ⟨t, a, rfl⟩ := hch.form
  have HC := hid hch
  clear hch
  go_wp2_with fail
  go_ret3
  exact ⟨_, rfl, HC.out, hb⟩

set_option maxRecDepth 100000 in
theorem Union_err1 (B : Nat) (S : Nat → Addr) (w : World) (hE : Env B S w) (base b r n : Nat) (sets : List (List Int)) (hbag : BagAt w base b r n sets) (i : Nat) (xi xj : Int) (hxi : xi = i) (x : List Int) (hi : sets[i]? = some x) (hk : xj < 0 ∨ (sets.length : Int) ≤ xj) :
    Calls Tryd.prog 54 #[.pointer (some ⟨b, 0, none⟩), .int .i64 xi, .int .i64 xj] w fun e w' => ∃ v, e = .returned (.tuple #[.int .i64 0, .bool false, v]) ∧ Chain S w' v (rootIx 3) [(opBag, 1)] ∧ Below w.heap.size w w' := by
  subst hxi
  have HE := hid hE
  have HI := hid hi
  have HBAG := hid hbag
  clear hE hbag hi
  go_enter Tryd.func54, Tryd.ntmps54
  go_wp2_with fail
  refine (bagSet_ok w base b r n sets HBAG.out i x HI.out 0).mono ?_
  rintro e w1 ⟨v, rfl, hown, rfl⟩
  obtain ⟨A1, c1, hv, hc1, hm1, hri⟩ := own_ri hown
  subst hv
  clear hown hri hm1
  go_wp2_with fail
  refine (bagSet_err B S w HE.out base b r n sets HBAG.out xj hk 1).mono ?_
  rintro e w1 ⟨v, rfl, hch, hb⟩
  obtain ⟨t, a, rfl⟩ := hch.form
  have HC := hid hch
  clear hch
  go_wp2_with fail
  go_ret3
  exact ⟨_, rfl, HC.out, hb⟩

set_option maxRecDepth 100000 in
theorem Union_nil (B : Nat) (S : Nat → Addr) (w : World) (hE : Env B S w) (xi xj : Int) :
    Calls Tryd.prog 54 #[.pointer none, .int .i64 xi, .int .i64 xj] w fun e w' => ∃ v, e = .returned (.tuple #[.int .i64 0, .bool false, v]) ∧ Chain S w' v (rootIx 11) [(opBag, 0)] ∧ Below w.heap.size w w' := by
  have HE := hid hE
  clear hE
  go_enter Tryd.func54, Tryd.ntmps54
  go_wp2_with fail
  refine (bagSet_nil B S w HE.out xi 0).mono ?_
  rintro e w1 ⟨v, rfl, hch, hb⟩
  obtain ⟨t, a, rfl⟩ := hch.form
  have HC := hid hch
  clear hch
  go_wp2_with fail
  go_ret3
  exact ⟨_, rfl, HC.out, hb⟩
end Go.Proofs.YtapebbejdgeijaaDoor
