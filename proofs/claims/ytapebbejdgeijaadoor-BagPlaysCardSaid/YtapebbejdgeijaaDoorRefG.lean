/- The reference bag: Union. -/
import Derived.Test.YtapebbejdgeijaaDoorRefF
namespace Go.Proofs.YtapebbejdgeijaaDoor
open Go.RowKit Go.Extern.Stop Go.Stop Go.Extern Go.Deep

theorem RPutPost.ret {X : Nat → Prop} {base b r n : Nat} {sets : List (List Int)} {ws : List Int} {w w2 : World} {e : Ending} (h : RPutPost X base b r n sets ws w e w2) : ∃ k f N Aa la ca Ab lb cb, e = .returned (.tuple #[.int .i64 k, .bool f, .agg #[.int .i64 N, .slice Aa la ca, .slice Ab lb cb]]) := by
  obtain ⟨_, _, h⟩ := h
  split at h
  · obtain ⟨v, rfl, he, _⟩ := h
    obtain ⟨Aa, la, ca, Ab, lb, cb, rfl⟩ := he.form
    exact ⟨_, _, _, _, _, _, _, _, _, rfl⟩
  · split at h
    · obtain ⟨v, rfl, he, _⟩ := h
      obtain ⟨Aa, la, ca, Ab, lb, cb, rfl⟩ := he.form
      exact ⟨_, _, _, _, _, _, _, _, _, rfl⟩
    · obtain ⟨v, rfl, he, _⟩ := h
      obtain ⟨Aa, la, ca, Ab, lb, cb, rfl⟩ := he.form
      exact ⟨_, _, _, _, _, _, _, _, _, rfl⟩

theorem RPutPost.finish {X : Nat → Prop} {base b r n k : Nat} {sets : List (List Int)} {ws : List Int} {w w1 w2 : World} {e : Ending} {x y z x' y' z' : Value} (h : RPutPost X base b r n sets ws w1 e w2) (hb : Below w.heap.size w w1) (hbase : base ≤ w.heap.size) (hk : w.heap.size ≤ k)
    (hc : ErrCell w2 k x y z) : RPutPost X base b r n sets ws w e (setErr w2 k x' y' z') := by
  obtain ⟨h1, h2, h3⟩ := h
  have hE : Below w.heap.size w2 (setErr w2 k x' y' z') := setErr_below (Below.refl _ _) hk
  refine ⟨((hb.mono hbase).trans h1).trans (hE.mono hbase), (h2.after_below hb).then_below hE, ?_⟩
  split at h3
  · obtain ⟨v, he, herr, hr⟩ := h3
    exact ⟨v, he, herr.same hc.blk setErr_same, hr.same hc.blk setErr_same⟩
  · by_cases hlen : sets.length = 4096
    · rw [if_pos hlen] at h3
      rw [if_pos hlen]
      obtain ⟨v, he, herr, hr⟩ := h3
      exact ⟨v, he, herr.same hc.blk setErr_same, hr.same hc.blk setErr_same⟩
    · rw [if_neg hlen] at h3
      rw [if_neg hlen]
      obtain ⟨v, he, herr, hr⟩ := h3
      exact ⟨v, he, herr.same hc.blk setErr_same, hr.same hc.blk setErr_same⟩

theorem RPutPost.cell {X : Nat → Prop} {base b r n k : Nat} {sets : List (List Int)} {ws : List Int} {w w2 : World} {e : Ending} {x y z : Value} (h : RPutPost X base b r n sets ws w e w2) (hr : RefAt w base b r n sets X) (hc : ErrCell w k x y z) : ErrCell w2 k x y z := by
  have hkl := (Array.getElem?_eq_some_iff.1 hc.blk).1
  refine ⟨(h.2.1.same k hkl (fun e => ?_) (fun c f hh => ?_) (fun c f hh => ?_)).trans hc.blk⟩
  · obtain ⟨vs, rows, hr⟩ := hr
    obtain ⟨D, ⟨es, clock, h1, _⟩, _⟩ := hr.map
    have := hc.blk
    rw [e, h1] at this; cases this
  · rw [hc.blk] at hh
    injection hh with hh
    injection hh with _ hh
    exact absurd hh (by decide)
  · rw [hc.blk] at hh
    injection hh with hh
    injection hh with _ hh
    exact absurd hh (by decide)

set_option maxRecDepth 100000 in
theorem refUnion_err (w : World) (p : Value) (i j : Int) (xs : List Int) (N : Int) (l : List (ByteArray × Int)) (hN : (N != 0) = true) (hget : ∀ W, Below w.heap.size w W → Calls Tryd.prog 51 #[p, .int .i64 i] W (GetPost xs N l W)) :
    Calls Tryd.prog 55 #[p, .int .i64 i, .int .i64 j] w fun e w' => ∃ v, e = .returned (.tuple #[.int .i64 0, .bool false, v]) ∧ ErrVal w' 0 v N l ∧ Below w.heap.size w w' := by
  have HGET := hid hget
  clear hget
  have HCELL := hid (ErrCell.new w)
  have HBW := hid (below_new w (.cells #[.int .i64 0, .slice none 0 0, .slice none 0 0] 39))
  go_enter Tryd.func55, Tryd.ntmps55
  go_wp2_with fail
  refine (HGET.out _ HBW.out).mono ?_
  rintro e w1 ⟨A, c, Aa, la, ca, Ab, lb, cb, rfl, herr, hown, hb1⟩
  have HC1 : Hid (ErrCell w1 w.heap.size (.int .i64 0) (.slice none 0 0) (.slice none 0 0)) := HCELL.out.below hb1
  have HB1 := hid (below_then HBW.out hb1 HBW.out.size)
  have HERR := hid herr
  have HC2 : Hid (ErrCell (w1.alloc (.cells #[.int .i64 N, .slice Aa la ca, .slice Ab lb cb] 39)) w1.heap.size (.int .i64 N) (.slice Aa la ca) (.slice Ab lb cb)) := ⟨heap_alloc_new w1 _⟩
  have HB2 : Hid (Below w1.heap.size w1 (w1.alloc (.cells #[.int .i64 N, .slice Aa la ca, .slice Ab lb cb] 39))) := below_new w1 _
  clear herr hown hb1
  go_wp2_with fail
  refine (errBad_calls _ N _ _).mono ?_
  rintro e w3 ⟨rfl, hb3⟩
  have HC3 := hid (HC2.out.below hb3)
  have HBT := hid (below_then HB2.out hb3 HB2.out.size)
  have HR3 := hid (HC1.out.below HBT.out)
  have HERR3 := hid (HERR.out.below HBT.out)
  have HB3 := hid (below_then HB1.out HBT.out HB1.out.size)
  have e0 := HC3.out.c0
  have e1 := HC3.out.c1
  have e2 := HC3.out.c2
  obtain ⟨c0, f0, c1, f1, c2, f2, r0, r1, r2⟩ := HR3.out.facts (.int .i64 N) (.slice Aa la ca) (.slice Ab lb cb)
  clear hb3
  rw [hN]
  go_wp2_with fail
  go_region
  go_wp2_with fail
  refine bodyPost_ret (v := .tuple #[.int .i64 0, .bool false, .agg #[.int .i64 N, .slice Aa la ca, .slice Ab lb cb]]) (by simp [results, Tryd.results55, go_sem, r0, r1, r2]) rfl ?_
  exact ⟨_, rfl, err_end HR3.out HERR3.out, Below.drew (setErr_below HB3.out (Nat.le_refl _))⟩

set_option maxRecDepth 100000 in
theorem refUnion_err1 (w : World) (p : Value) (i j : Int) (xs ys : List Int) (N2 : Int) (l2 : List (ByteArray × Int)) (hN2 : (N2 != 0) = true) (hget : ∀ W, Below w.heap.size w W → Calls Tryd.prog 51 #[p, .int .i64 i] W (GetPost xs 0 [] W))
    (hget2 : ∀ W, Below w.heap.size w W → Calls Tryd.prog 51 #[p, .int .i64 j] W (GetPost ys N2 l2 W)) :
    Calls Tryd.prog 55 #[p, .int .i64 i, .int .i64 j] w fun e w' => ∃ v, e = .returned (.tuple #[.int .i64 0, .bool false, v]) ∧ ErrVal w' 0 v 3 [(opBag, 1)] ∧ Below w.heap.size w w' := by
  have HGET := hid hget
  have HGET2 := hid hget2
  clear hget hget2
  have HCELL := hid (ErrCell.new w)
  have HBW := hid (below_new w (.cells #[.int .i64 0, .slice none 0 0, .slice none 0 0] 39))
  go_enter Tryd.func55, Tryd.ntmps55
  go_wp2_with fail
  refine (HGET.out _ HBW.out).mono ?_
  rintro e w1 ⟨A, c, Aa, la, ca, Ab, lb, cb, rfl, _, hown, hb1⟩
  have HC1 : Hid (ErrCell w1 w.heap.size (.int .i64 0) (.slice none 0 0) (.slice none 0 0)) := HCELL.out.below hb1
  have HOX := hid hown
  have HB1' := hid hb1
  have HC2 : Hid (ErrCell (w1.alloc (.cells #[.int .i64 0, .slice Aa la ca, .slice Ab lb cb] 39)) w1.heap.size (.int .i64 0) (.slice Aa la ca) (.slice Ab lb cb)) := ⟨heap_alloc_new w1 _⟩
  have HB2 : Hid (Below w1.heap.size w1 (w1.alloc (.cells #[.int .i64 0, .slice Aa la ca, .slice Ab lb cb] 39))) := below_new w1 _
  clear hown hb1
  go_wp2_with fail
  refine (errBad_calls _ 0 _ _).mono ?_
  rintro e w3 ⟨rfl, hb3⟩
  have HC3 := hid (HC2.out.below hb3)
  have HBT := hid (below_then HB2.out hb3 HB2.out.size)
  have HR3 := hid (HC1.out.below HBT.out)
  have HOX3 := hid (own_below HOX.out HBT.out (Nat.le_refl _))
  have HBX3 := hid (below_then HB1'.out HBT.out HB1'.out.size)
  have HB3 := hid (below_then HBW.out HBX3.out HBW.out.size)
  clear hb3
  rw [show ((0 : Int) != 0) = false from rfl]
  go_wp2_with fail
  refine (HGET2.out _ HB3.out).mono ?_
  rintro e w4 ⟨A4, c4, Ac, lc, cc, Ad, ld, cd, rfl, herr4, hown4, hb4⟩
  have HC4 := hid (HC3.out.below hb4)
  have HR4 := hid (HR3.out.below hb4)
  have HOX4 := hid (own_below HOX3.out hb4 (Nat.le_refl _))
  have HBX4 := hid (below_then HBX3.out hb4 HBX3.out.size)
  have HB4 := hid (below_then HBW.out HBX4.out HBW.out.size)
  have HOY4 := hid hown4
  have HERR4 := hid herr4
  have hw1 : (w.alloc (.cells #[.int .i64 0, .slice none 0 0, .slice none 0 0] 39)).heap.size ≤ w1.heap.size := HB1'.out.size
  have hw0 : w.heap.size < w1.heap.size := Nat.lt_of_lt_of_le (by simp) hw1
  obtain ⟨c0, f0, c1, f1, c2, f2, r0, r1, r2⟩ := HC4.out.facts (.int .i64 N2) (.slice Ac lc cc) (.slice Ad ld cd)
  clear herr4 hown4 hb4
  go_wp2_with fail
  have HC5 : Hid (ErrCell (setErr w4 w1.heap.size (.int .i64 N2) (.slice Ac lc cc) (.slice Ad ld cd)) w1.heap.size (.int .i64 N2) (.slice Ac lc cc) (.slice Ad ld cd)) := setErr_cell HC4.out
  have HR5 : Hid (ErrCell (setErr w4 w1.heap.size (.int .i64 N2) (.slice Ac lc cc) (.slice Ad ld cd)) w.heap.size (.int .i64 0) (.slice none 0 0) (.slice none 0 0)) := ⟨(setErr_same _ (by omega)).trans HR4.out.blk⟩
  have HOX5 := hid (own_same (w' := setErr w4 w1.heap.size (.int .i64 N2) (.slice Ac lc cc) (.slice Ad ld cd)) HOX4.out w1.heap.size (own_not_block HOX4.out HC4.out.blk (by decide)) setErr_same)
  have HOY5 := hid (own_same (w' := setErr w4 w1.heap.size (.int .i64 N2) (.slice Ac lc cc) (.slice Ad ld cd)) HOY4.out w1.heap.size (own_not_block HOY4.out HC4.out.blk (by decide)) setErr_same)
  have HBX5 := hid (setErr_below (x' := .int .i64 N2) (y' := .slice Ac lc cc) (z' := .slice Ad ld cd) HBX4.out hw1)
  have hs4 : w4.heap.size ≤ (setErr w4 w1.heap.size (.int .i64 N2) (.slice Ac lc cc) (.slice Ad ld cd)).heap.size := (setErr_below (Below.refl 0 w4) (Nat.zero_le _)).size
  clear c0 f0 c1 f1 c2 f2 r0 r1 r2
  refine (errBad_calls (setErr w4 w1.heap.size (.int .i64 N2) (.slice Ac lc cc) (.slice Ad ld cd)) N2 _ _).mono ?_
  generalize setErr w4 w1.heap.size (.int .i64 N2) (.slice Ac lc cc) (.slice Ad ld cd) = w5 at *
  rintro e w6 ⟨rfl, hb6⟩
  have HR6 := hid (HR5.out.below hb6)
  have HOX6 := hid (own_below HOX5.out hb6 (Nat.le_refl _))
  have HOY6 := hid (own_below HOY5.out hb6 (Nat.le_refl _))
  have HBX6 := hid (below_then HBX5.out hb6 HBX5.out.size)
  have HB6 := hid (below_then HBW.out HBX6.out HBW.out.size)
  clear hb6
  rw [hN2]
  replace HCELL := HR6
  replace HBW := HB6
  go_wp2_with fail
  refine (rawNew_form _ _ _ _).mono ?_
  rintro e w9 ⟨Aa, ca, Ab, cb, rfl, herr9, hb9⟩
  have HC9 : Hid (ErrCell w9 w.heap.size (.int .i64 0) (.slice none 0 0) (.slice none 0 0)) := HCELL.out.below hb9
  obtain ⟨c0, f0, c1, f1, c2, f2, r0, r1, r2⟩ := HC9.out.facts (.int .i64 3) (.slice Aa 1 ca) (.slice Ab 1 cb)
  have HB9 := hid (below_then HBW.out hb9 HBW.out.size)
  have HERR := hid herr9
  clear hb9 herr9
  go_wp2_with fail
  refine bodyPost_ret (v := .tuple #[.int .i64 0, .bool false, .agg #[.int .i64 3, .slice Aa 1 ca, .slice Ab 1 cb]]) (by simp [results, Tryd.results55, go_sem, r0, r1, r2]) rfl ?_
  exact ⟨_, rfl, err_end HC9.out HERR.out, setErr_below HB9.out (Nat.le_refl _)⟩

set_option maxRecDepth 100000 in
theorem refUnion_core {X : Nat → Prop} (w : World) (hX : ∀ k, w.heap.size ≤ k → X k) (base b r n : Nat) (sets : List (List Int)) (hbag : RefAt w base b r n sets X) (xi xj : Int) (xs ys ws : List Int) (N2 : Int) (hN2 : (N2 != 0) = false)
    (hget : ∀ W, Below w.heap.size w W → Calls Tryd.prog 51 #[.pointer (some ⟨b, 0, none⟩), .int .i64 xi] W (GetPost xs 0 [] W))
    (hget2 : ∀ W, Below w.heap.size w W → Calls Tryd.prog 51 #[.pointer (some ⟨b, 0, none⟩), .int .i64 xj] W (GetPost ys N2 [] W))
    (hf : firstBad n (xs ++ ys) = none) (hw : Clean n ws) (hrs : rset (xs ++ ys) = members n ws) (hlx : xs.length ≤ 8192) (hly : ys.length ≤ 8192) :
    Calls Tryd.prog 55 #[.pointer (some ⟨b, 0, none⟩), .int .i64 xi, .int .i64 xj] w (RPutPost X base b r n sets ws w) := by
  have HGET := hid hget
  have HGET2 := hid hget2
  obtain ⟨hbase, hbl0, hn, hsl, _⟩ := hbag.facts
  have HLX := hid hlx
  have HLY := hid hly
  have HBAG := hid hbag
  have HF := hid hf
  have HW := hid hw
  have HRS := hid hrs
  clear hbag hget hget2 hf hw hrs hlx hly
  have HCELL := hid (ErrCell.new w)
  have HBW := hid (below_new w (.cells #[.int .i64 0, .slice none 0 0, .slice none 0 0] 39))
  go_enter Tryd.func55, Tryd.ntmps55
  go_wp2_with fail
  refine (HGET.out _ HBW.out).mono ?_
  rintro e w1 ⟨A, c, Aa, la, ca, Ab, lb, cb, rfl, _, hown, hb1⟩
  have HC1 : Hid (ErrCell w1 w.heap.size (.int .i64 0) (.slice none 0 0) (.slice none 0 0)) := HCELL.out.below hb1
  have HOX := hid hown
  have HB1' := hid hb1
  have HC2 : Hid (ErrCell (w1.alloc (.cells #[.int .i64 0, .slice Aa la ca, .slice Ab lb cb] 39)) w1.heap.size (.int .i64 0) (.slice Aa la ca) (.slice Ab lb cb)) := ⟨heap_alloc_new w1 _⟩
  have HB2 : Hid (Below w1.heap.size w1 (w1.alloc (.cells #[.int .i64 0, .slice Aa la ca, .slice Ab lb cb] 39))) := below_new w1 _
  clear hown hb1
  go_wp2_with fail
  refine (errBad_calls _ 0 _ _).mono ?_
  rintro e w3 ⟨rfl, hb3⟩
  have HC3 := hid (HC2.out.below hb3)
  have HBT := hid (below_then HB2.out hb3 HB2.out.size)
  have HR3 := hid (HC1.out.below HBT.out)
  have HOX3 := hid (own_below HOX.out HBT.out (Nat.le_refl _))
  have HBX3 := hid (below_then HB1'.out HBT.out HB1'.out.size)
  have HB3 := hid (below_then HBW.out HBX3.out HBW.out.size)
  clear hb3
  rw [show ((0 : Int) != 0) = false from rfl]
  go_wp2_with fail
  refine (HGET2.out _ HB3.out).mono ?_
  rintro e w4 ⟨A4, c4, Ac, lc, cc, Ad, ld, cd, rfl, herr4, hown4, hb4⟩
  have HC4 := hid (HC3.out.below hb4)
  have HR4 := hid (HR3.out.below hb4)
  have HOX4 := hid (own_below HOX3.out hb4 (Nat.le_refl _))
  have HBX4 := hid (below_then HBX3.out hb4 HBX3.out.size)
  have HB4 := hid (below_then HBW.out HBX4.out HBW.out.size)
  have HOY4 := hid hown4
  have HERR4 := hid herr4
  have hw1 : (w.alloc (.cells #[.int .i64 0, .slice none 0 0, .slice none 0 0] 39)).heap.size ≤ w1.heap.size := HB1'.out.size
  have hw0 : w.heap.size < w1.heap.size := Nat.lt_of_lt_of_le (by simp) hw1
  obtain ⟨c0, f0, c1, f1, c2, f2, r0, r1, r2⟩ := HC4.out.facts (.int .i64 N2) (.slice Ac lc cc) (.slice Ad ld cd)
  clear herr4 hown4 hb4
  go_wp2_with fail
  have HC5 : Hid (ErrCell (setErr w4 w1.heap.size (.int .i64 N2) (.slice Ac lc cc) (.slice Ad ld cd)) w1.heap.size (.int .i64 N2) (.slice Ac lc cc) (.slice Ad ld cd)) := setErr_cell HC4.out
  have HR5 : Hid (ErrCell (setErr w4 w1.heap.size (.int .i64 N2) (.slice Ac lc cc) (.slice Ad ld cd)) w.heap.size (.int .i64 0) (.slice none 0 0) (.slice none 0 0)) := ⟨(setErr_same _ (by omega)).trans HR4.out.blk⟩
  have HOX5 := hid (own_same (w' := setErr w4 w1.heap.size (.int .i64 N2) (.slice Ac lc cc) (.slice Ad ld cd)) HOX4.out w1.heap.size (own_not_block HOX4.out HC4.out.blk (by decide)) setErr_same)
  have HOY5 := hid (own_same (w' := setErr w4 w1.heap.size (.int .i64 N2) (.slice Ac lc cc) (.slice Ad ld cd)) HOY4.out w1.heap.size (own_not_block HOY4.out HC4.out.blk (by decide)) setErr_same)
  have HBX5 := hid (setErr_below (x' := .int .i64 N2) (y' := .slice Ac lc cc) (z' := .slice Ad ld cd) HBX4.out hw1)
  have hs4 : w4.heap.size ≤ (setErr w4 w1.heap.size (.int .i64 N2) (.slice Ac lc cc) (.slice Ad ld cd)).heap.size := (setErr_below (Below.refl 0 w4) (Nat.zero_le _)).size
  clear c0 f0 c1 f1 c2 f2 r0 r1 r2
  refine (errBad_calls (setErr w4 w1.heap.size (.int .i64 N2) (.slice Ac lc cc) (.slice Ad ld cd)) N2 _ _).mono ?_
  generalize setErr w4 w1.heap.size (.int .i64 N2) (.slice Ac lc cc) (.slice Ad ld cd) = w5 at *
  rintro e w6 ⟨rfl, hb6⟩
  have HR6 := hid (HR5.out.below hb6)
  have HOX6 := hid (own_below HOX5.out hb6 (Nat.le_refl _))
  have HOY6 := hid (own_below HOY5.out hb6 (Nat.le_refl _))
  have HBX6 := hid (below_then HBX5.out hb6 HBX5.out.size)
  have HB6 := hid (below_then HBW.out HBX6.out HBW.out.size)
  clear hb6
  rw [hN2]
  obtain ⟨_, _, hv, _, _, hry⟩ := own_ri HOY6.out
  simp only [Value.slice.injEq] at hv
  obtain ⟨rfl, -, rfl⟩ := hv
  have HRY := hid hry
  have HNY : Hid (A4 = none → c4 = 0) := members_ri_nil HOY6.out
  have HLL : Hid ((ys.map (Value.int .i64)).length = ys.length) := List.length_map _
  have hsz6 : (w.alloc (.cells #[.int .i64 0, .slice none 0 0, .slice none 0 0] 39)).heap.size ≤ w6.heap.size := HBX6.out.size
  clear hry
  go_wp2_with (at_builtin; refine appendN (w0 := w.alloc (.cells #[.int .i64 0, .slice none 0 0, .slice none 0 0] 39)) (w.alloc (.cells #[.int .i64 0, .slice none 0 0, .slice none 0 0] 39)).heap.size (by rfl) (.tmp 31) (.tmp 32) 22 3 (.int .i64 0) 8 (by rfl) Tryd.underlying22 Tryd.infoInt (by rfl) (by decide) _ _ _ A4 c4 (ys.map (Value.int .i64)) (by rfl) (by rw [HLL.out]; rfl) (int_oneCell _ _) HNY.out HRY.out.cells HOX6.out HBX6.out hsz6 (by rw [HLL.out]; have := HLX.out; have := HLY.out; omega) ?_; intro v7 w7 o7 b7 g7 _; obtain ⟨A7, c7, hv7, _, _⟩ := own_slice o7; subst hv7)
  rw [HLL.out] at o7
  have HO7 : Hid (w7.ownsRow (w.alloc (.cells #[.int .i64 0, .slice none 0 0, .slice none 0 0] 39)).heap.size 3 1 (.slice A7 (xs.length + ys.length) c7) (xs.length + ys.length) ((xs ++ ys).map (Value.int .i64))) := by rw [List.map_append]; exact o7
  have HR7 : Hid (ErrCell w7 w.heap.size (.int .i64 0) (.slice none 0 0) (.slice none 0 0)) := ⟨(g7.block _ (Array.getElem?_eq_some_iff.1 HR6.out.blk).1 (own_not_block HOX6.out HR6.out.blk (by decide))).trans HR6.out.blk⟩
  have HB7 := hid (below_then HBW.out b7 HBW.out.size)
  have HBAG7 := hid (HBAG.out.below HB7.out)
  obtain ⟨_, _, hv7, _, hm7, hri7⟩ := own_ri HO7.out
  simp only [Value.slice.injEq] at hv7
  obtain ⟨rfl, -, rfl⟩ := hv7
  have HRI7 := hid hri7
  have HM7 := hid hm7
  clear hri7 hm7 o7 b7 g7
  refine (refPut_ok w7 (fun k h => hX k (Nat.le_trans HB7.out.size h)) base b r n sets A7 _ c7 (xs ++ ys) ws HM7.out.symm HBAG7.out HRI7.out (members_ri_nil HO7.out) (by rw [List.length_append]; have := HLX.out; have := HLY.out; omega) HF.out HW.out HRS.out).mono ?_
  rintro e w8 hp
  obtain ⟨kk, ff, NN, Ae, le, ce, Af, lf, cf, rfl⟩ := hp.ret
  have HP := hid hp
  have HC8 := hid (hp.cell HBAG7.out HR7.out)
  obtain ⟨c0, f0, c1, f1, c2, f2, r0, r1, r2⟩ := HC8.out.facts (.int .i64 NN) (.slice Ae le ce) (.slice Af lf cf)
  clear hp
  go_wp2_with fail
  refine bodyPost_ret (v := .tuple #[.int .i64 kk, .bool ff, .agg #[.int .i64 NN, .slice Ae le ce, .slice Af lf cf]]) (by simp [results, Tryd.results55, go_sem, r0, r1, r2]) rfl ?_
  exact HP.out.finish HB7.out hbase (Nat.le_refl _) HC8.out

theorem refUnion_ok {X : Nat → Prop} (w : World) (hX : ∀ k, w.heap.size ≤ k → X k) (base b r n : Nat) (sets : List (List Int)) (hbag : RefAt w base b r n sets X) (i j : Nat) (xi xj : Int) (hxi : xi = i) (hxj : xj = j) (x y : List Int) (hi : sets[i]? = some x) (hj : sets[j]? = some y) :
    Calls Tryd.prog 55 #[.pointer (some ⟨b, 0, none⟩), .int .i64 xi, .int .i64 xj] w (RPutPost X base b r n sets (orWords x y) w) := by
  obtain ⟨hbase, hbl0, hn, hsl, _⟩ := hbag.facts
  have hcx : Clean n x := by obtain ⟨vs, rows, h⟩ := hbag; exact h.cln x (List.mem_of_getElem? hi)
  have hcy : Clean n y := by obtain ⟨vs, rows, h⟩ := hbag; exact h.cln y (List.mem_of_getElem? hj)
  have hln : ∀ ws, (members n ws).length ≤ 8192 := fun ws => by
    have h0 := List.length_filter_le (memb ws) (List.range n)
    rw [List.length_range] at h0
    unfold members; rw [List.length_map]; omega
  exact refUnion_core w hX base b r n sets hbag xi xj (members n x) (members n y) (orWords x y) 0 rfl (fun W hb => refGet_ok W base b r n sets (hbag.below hb) xi i hxi x hi) (fun W hb => refGet_ok W base b r n sets (hbag.below hb) xj j hxj y hj)
    (firstBad_ok (fun z hz => by
      rcases List.mem_append.1 hz with hz | hz
      · exact members_range z hz
      · exact members_range z hz)) (hcx.or hcy) (rset_or hcx hcy) (hln x) (hln y)
end Go.Proofs.YtapebbejdgeijaaDoor
