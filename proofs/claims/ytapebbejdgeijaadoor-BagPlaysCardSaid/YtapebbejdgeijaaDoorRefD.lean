/- The reference bag: Get, Bad, Has. -/
import Derived.Test.YtapebbejdgeijaaDoorRefC
namespace Go.Proofs.YtapebbejdgeijaaDoor
open Go.RowKit Go.Extern.Stop Go.Stop Go.Extern Go.Deep

/-- What Get leaves: a new row of these numbers, and this error. -/
def GetPost (xs : List Int) (N : Int) (l : List (ByteArray × Int)) (w : World) (e : Ending) (w' : World) : Prop :=
  ∃ A c Aa la ca Ab lb cb, e = .returned (.tuple #[.slice A xs.length c, .agg #[.int .i64 N, .slice Aa la ca, .slice Ab lb cb]]) ∧ ErrVal w' 0 (.agg #[.int .i64 N, .slice Aa la ca, .slice Ab lb cb]) N l ∧
    w'.ownsRow w.heap.size 3 1 (.slice A xs.length c) xs.length (xs.map (Value.int .i64)) ∧ Below w.heap.size w w'

theorem ErrVal.form {w : World} {base : Nat} {v : Value} {n : Int} {l : List (ByteArray × Int)} (h : ErrVal w base v n l) : ∃ Aa la ca Ab lb cb, v = .agg #[.int .i64 n, .slice Aa la ca, .slice Ab lb cb] := by
  obtain ⟨a, b, rfl, h1, h2⟩ := h
  obtain ⟨Aa, ca, rfl, _, _⟩ := own_slice h1
  obtain ⟨Ab, cb, rfl, _, _⟩ := own_slice h2
  exact ⟨_, _, _, _, _, _, rfl⟩

theorem members_ri_nil {w : World} {base n : Nat} {A : Option Addr} {c : Nat} {xs : List Value} (h : w.ownsRow base 3 1 (.slice A n c) n xs) : A = none → c = 0 := by
  rintro rfl
  rcases h.2 with ⟨h, _⟩ | ⟨g, cap, cur, h, _⟩
  · simp at h; exact h.2
  · simp at h

set_option maxRecDepth 100000 in
theorem refGet_ok {X : Nat → Prop} (w : World) (base b r n : Nat) (sets : List (List Int)) (hbag : RefAt w base b r n sets X) (i : Int) (k : Nat) (hi : i = k) (ws : List Int) (hk : sets[k]? = some ws) :
    Calls Tryd.prog 51 #[.pointer (some ⟨b, 0, none⟩), .int .i64 i] w (GetPost (members n ws) 0 [] w) := by
  subst hi
  have HCELL := hid (ErrCell.new w)
  have HBW := hid (below_new w (.cells #[.int .i64 0, .slice none 0 0, .slice none 0 0] 39))
  have hbag1 := hbag.below HBW.out
  obtain ⟨vs, rows, h⟩ := hbag1
  have hkl := (List.getElem?_eq_some_iff.1 hk).1
  obtain ⟨g, cap, rfl, hg, _, hc', hm'⟩ := own_form h.own (by omega)
  have h1 := (cells3 h.blk).2.1
  obtain ⟨v, hv, hown⟩ := h.elt k ws hk
  have hcell : (w.alloc (.cells #[.int .i64 0, .slice none 0 0, .slice none 0 0] 39)).cell? ⟨g, k, none⟩ = some v := by
    have := h.own.cellAt k (by omega)
    simpa [hv] using this
  obtain ⟨A, c, rfl, hc, hm, hri⟩ := own_ri hown
  have HRI := hid hri
  have HNIL : Hid (A = none → c = 0) := members_ri_nil hown
  have HLEN : Hid ((members n ws).length ≤ 8192) := by
    have h0 := List.length_filter_le (memb ws) (List.range n)
    rw [List.length_range] at h0
    have := h.nle
    show (members n ws).length ≤ 8192
    unfold members; rw [List.length_map]; omega
  have hl1 : (k : Int) < (sets.length : Int) := by omega
  have hl2 : ¬ (sets.length : Int) ≤ (k : Int) := by omega
  clear h hbag hown hri hm hc hv hk
  generalize members n ws = ms at *
  go_enter Tryd.func51, Tryd.ntmps51
  go_wp2_with fail
  refine (rawCopy_calls _ A c ms HRI.out HNIL.out (by have := HLEN.out; omega)).mono ?_
  rintro e w9 ⟨v9, rfl, hown9, hb9⟩
  obtain ⟨A9, c9, rfl, _, _⟩ := own_slice hown9
  have HC9 : Hid (ErrCell w9 w.heap.size (.int .i64 0) (.slice none 0 0) (.slice none 0 0)) := HCELL.out.below hb9
  obtain ⟨c0, f0, c1, f1, c2, f2, r0, r1, r2⟩ := HC9.out.facts (.int .i64 0) (.slice none 0 0) (.slice none 0 0)
  have HB9 := hid (below_then HBW.out hb9 HBW.out.size)
  have HO9 := hid hown9
  clear hb9 hown9
  go_wp2_with fail
  refine bodyPost_ret (v := .tuple #[.slice A9 ms.length c9, zeroErr]) (by simp [results, Tryd.results51, go_sem, r0, r1, r2, zeroErr]) rfl ?_
  refine ⟨A9, c9, none, 0, 0, none, 0, 0, rfl, ErrVal.zero _ _, ?_, setErr_below HB9.out (Nat.le_refl _)⟩
  exact own_same (own_base HO9.out HBW.out.size) w.heap.size (own_not_block HO9.out HC9.out.blk (by decide)) setErr_same

theorem refGet_bad {X : Nat → Prop} (w : World) (base b r n : Nat) (sets : List (List Int)) (hbag : RefAt w base b r n sets X) (i : Int) (hi : i < 0 ∨ (sets.length : Int) ≤ i) :
    Calls Tryd.prog 51 #[.pointer (some ⟨b, 0, none⟩), .int .i64 i] w (GetPost [] 3 [(opBag, 0)] w) := by
  refine (refGet_err w base b r n sets hbag i hi).mono ?_
  rintro e w' ⟨v, rfl, herr, hb⟩
  obtain ⟨Aa, la, ca, Ab, lb, cb, rfl⟩ := herr.form
  exact ⟨none, 0, Aa, la, ca, Ab, lb, cb, rfl, herr, World.ownsRow_nil _ _ _ _, hb⟩
theorem refGet_none (w : World) (i : Int) :
    Calls Tryd.prog 51 #[.pointer none, .int .i64 i] w (GetPost [] 11 [(opBag, 0)] w) := by
  refine (refGet_nil w i).mono ?_
  rintro e w' ⟨v, rfl, herr, hb⟩
  obtain ⟨Aa, la, ca, Ab, lb, cb, rfl⟩ := herr.form
  exact ⟨none, 0, Aa, la, ca, Ab, lb, cb, rfl, herr, World.ownsRow_nil _ _ _ _, hb⟩

theorem errBad_calls (w : World) (N : Int) (a b : Value) :
    Calls Tryd.prog 69 #[.agg #[.int .i64 N, a, b]] w fun e w' => e = .returned (.bool (N != 0)) ∧ Below w.heap.size w w' := by
  go_enter Tryd.func69, Tryd.ntmps69
  go_wp2
  go_ret
  exact ⟨rfl, below_new _ _⟩

set_option maxRecDepth 100000 in
theorem refHas_calls (w : World) (p : Value) (i x : Int) (xs : List Int) (N : Int) (l : List (ByteArray × Int)) (hget : ∀ W, Below w.heap.size w W → Calls Tryd.prog 51 #[p, .int .i64 i] W (GetPost xs N l W)) :
    Calls Tryd.prog 53 #[p, .int .i64 i, .int .i64 x] w fun e w' => ∃ v, e = .returned (.tuple #[.bool (decide (x ∈ xs)), v]) ∧ ErrVal w' 0 v N l ∧ Below w.heap.size w w' := by
  have HGET := hid hget
  clear hget
  have HCELL := hid (ErrCell.new w)
  have HBW := hid (below_new w (.cells #[.int .i64 0, .slice none 0 0, .slice none 0 0] 39))
  go_enter Tryd.func53, Tryd.ntmps53
  go_wp2_with fail
  refine (HGET.out _ HBW.out).mono ?_
  rintro e w1 ⟨A, c, Aa, la, ca, Ab, lb, cb, rfl, herr, hown, hb1⟩
  have HC1 : Hid (ErrCell w1 w.heap.size (.int .i64 0) (.slice none 0 0) (.slice none 0 0)) := HCELL.out.below hb1
  have HB1 := hid (below_then HBW.out hb1 HBW.out.size)
  have HERR := hid herr
  have HOWN := hid hown
  have HC2 : Hid (ErrCell (w1.alloc (.cells #[.int .i64 N, .slice Aa la ca, .slice Ab lb cb] 39)) w1.heap.size (.int .i64 N) (.slice Aa la ca) (.slice Ab lb cb)) := ⟨heap_alloc_new w1 _⟩
  have HB2 : Hid (Below w1.heap.size w1 (w1.alloc (.cells #[.int .i64 N, .slice Aa la ca, .slice Ab lb cb] 39))) := below_new w1 _
  clear herr hown hb1
  go_wp2_with fail
  generalize w1.alloc (.cells #[.int .i64 N, .slice Aa la ca, .slice Ab lb cb] 39) = w2 at *
  have HR2 : Hid (ErrCell w2 w.heap.size (.int .i64 0) (.slice none 0 0) (.slice none 0 0)) := HC1.out.below HB2.out
  have HOWN2 := hid (own_below HOWN.out HB2.out (Nat.le_refl _))
  have HERR2 := hid (HERR.out.below HB2.out)
  have HBT := hid (below_then HB1.out HB2.out HB1.out.size)
  obtain ⟨_, _, hv, _, _, hri⟩ := own_ri HOWN2.out
  simp only [Value.slice.injEq] at hv
  obtain ⟨rfl, -, rfl⟩ := hv
  have HRI := hid hri
  clear hri
  have e0 := HC2.out.c0
  have e1 := HC2.out.c1
  have e2 := HC2.out.c2
  obtain ⟨c0, f0, c1, f1, c2, f2, r0, r1, r2⟩ := HR2.out.facts (.int .i64 N) (.slice Aa la ca) (.slice Ab lb cb)
  have hmx := HRI.out.1
  obtain ⟨m, hm⟩ : ∃ m, m = xs.length := ⟨_, rfl⟩
  have HM := hid hm
  rw [← hm] at hmx ⊢
  clear hm
  go_loopw [10] (fun i wr => ∃ k : Nat, k ≤ m ∧ i = .int .i64 k ∧ wr = w2 ∧ ∀ (j : Nat) (y : Int), j < k → xs[j]? = some y → y ≠ x) (fun i _ => m - (intOf i).toNat)
  case atStart => exact ⟨0, Nat.zero_le _, rfl, rfl, fun j y hj => absurd hj (by omega)⟩
  case round =>
    obtain ⟨k, hk, rfl, rfl, hno⟩ := hrel
    have HNO := hid hno
    clear hno
    by_cases hlt : k < m
    · obtain ⟨bA, oA, y, rfl, hyk, hc⟩ := HRI.out.at_ (show k < xs.length by rw [← HM.out]; exact hlt)
      have HYK := hid hyk
      clear hyk
      by_cases hxy : y = x
      · have hd : (y == x) = true := by simp [hxy]
        have HX : Hid (decide (x ∈ xs) = true) := decide_eq_true (hxy ▸ List.mem_of_getElem? HYK.out)
        clear hxy
        go_wp2_with fail
        go_region
        go_wp2_with fail
        refine bodyPost_ret (v := .tuple #[.bool true, .agg #[.int .i64 N, .slice Aa la ca, .slice Ab lb cb]]) (by simp [results, Tryd.results53, go_sem, r0, r1, r2]) rfl ?_
        rw [HX.out]
        exact ⟨_, rfl, err_end HR2.out HERR2.out, Below.drew (setErr_below HBT.out (Nat.le_refl _))⟩
      · have hd : (y == x) = false := by simp [hxy]
        have HXY := hid hxy
        clear hxy
        go_wp2_with fail
        go_roundw
        case measure => simp [intOf]; omega
        case rel =>
          refine ⟨k + 1, by omega, by go_num, (by first | rfl | trivial), fun j z hj hz => ?_⟩
          rcases Nat.lt_or_ge j k with h | h
          · exact HNO.out j z h hz
          · obtain rfl : j = k := by omega
            obtain rfl : z = y := Option.some.inj (hz.symm.trans HYK.out)
            exact HXY.out
    · have hk' : k = m := by omega
      have HX : Hid (decide (x ∈ xs) = false) := by
        refine decide_eq_false fun h => ?_
        obtain ⟨j, hj, e⟩ := List.getElem_of_mem h
        exact HNO.out j x (by have := HM.out; omega) (by rw [List.getElem?_eq_getElem hj, e]) rfl
      clear hk'
      go_wp2_with fail
      go_region
      go_wp2_with fail
      refine bodyPost_ret (v := .tuple #[.bool false, .agg #[.int .i64 N, .slice Aa la ca, .slice Ab lb cb]]) (by simp [results, Tryd.results53, go_sem, r0, r1, r2]) rfl ?_
      rw [HX.out]
      exact ⟨_, rfl, err_end HR2.out HERR2.out, Below.drew (setErr_below HBT.out (Nat.le_refl _))⟩
end Go.Proofs.YtapebbejdgeijaaDoor
