/- The reference bag: Put. -/
import Derived.Test.YtapebbejdgeijaaDoorRefE
namespace Go.Proofs.YtapebbejdgeijaaDoor
open Go.RowKit Go.Extern.Stop Go.Stop Go.Extern Go.Deep

theorem RefFrame.after_below {w w1 w2 : World} {r : Nat} (hb : Below w.heap.size w w1) (h : RefFrame w1 w2 r) : RefFrame w w2 r where
  os := h.os.trans hb.os
  tape := h.tape.trans hb.tape
  output := h.output.trans hb.output
  size := Nat.le_trans hb.size h.size
  same k hk hr h1 h2 := by
    have e := hb.block k hk
    rw [h.same k (Nat.lt_of_lt_of_le hk hb.size) hr (by rw [e]; exact h1) (by rw [e]; exact h2), e]
theorem RefFrame.then_below {w w1 w2 : World} {r : Nat} (h : RefFrame w w1 r) (hb : Below w.heap.size w1 w2) : RefFrame w w2 r where
  os := hb.os.trans h.os
  tape := hb.tape.trans h.tape
  output := hb.output.trans h.output
  size := Nat.le_trans h.size hb.size
  same k hk hr h1 h2 := (hb.block k hk).trans (h.same k hk hr h1 h2)

def RPutPost (X : Nat → Prop) (base b r n : Nat) (sets : List (List Int)) (ws : List Int) (w : World) (e : Ending) (w' : World) : Prop :=
  Below base w w' ∧ RefFrame w w' r ∧ match refFind n sets (keyR (members n ws)) with
  | some id => ∃ v, e = .returned (.tuple #[.int .i64 id, .bool false, v]) ∧ ErrVal w' 0 v 0 [] ∧ RefAt w' base b r n sets X
  | none => if sets.length = 4096 then ∃ v, e = .returned (.tuple #[.int .i64 0, .bool false, v]) ∧ ErrVal w' 0 v 4 [(opBag, 0)] ∧ RefAt w' base b r n sets X
      else ∃ v, e = .returned (.tuple #[.int .i64 (sets.length : Int), .bool true, v]) ∧ ErrVal w' 0 v 0 [] ∧ RefAt w' base b r n (sets ++ [ws]) X

set_option maxRecDepth 100000 in
theorem refPut_nil (w : World) (u : Value) :
    Calls Tryd.prog 49 #[.pointer none, u] w fun e w' => ∃ v, e = .returned (.tuple #[.int .i64 0, .bool false, v]) ∧ ErrVal w' 0 v 11 [(opBag, 0)] ∧ Below w.heap.size w w' := by
  have HCELL := hid (ErrCell.new w)
  have HBW := hid (below_new w (.cells #[.int .i64 0, .slice none 0 0, .slice none 0 0] 39))
  go_enter Tryd.func49, Tryd.ntmps49
  go_wp2_with fail
  refine (rawNew_form _ _ _ _).mono ?_
  rintro e w9 ⟨Aa, ca, Ab, cb, rfl, herr9, hb9⟩
  have HC9 : Hid (ErrCell w9 w.heap.size (.int .i64 0) (.slice none 0 0) (.slice none 0 0)) := HCELL.out.below hb9
  obtain ⟨c0, f0, c1, f1, c2, f2, r0, r1, r2⟩ := HC9.out.facts (.int .i64 11) (.slice Aa 1 ca) (.slice Ab 1 cb)
  have HB9 := hid (below_then HBW.out hb9 HBW.out.size)
  have HERR := hid herr9
  clear hb9 herr9
  go_wp2_with fail
  refine bodyPost_ret (v := .tuple #[.int .i64 0, .bool false, .agg #[.int .i64 11, .slice Aa 1 ca, .slice Ab 1 cb]]) (by simp [results, Tryd.results49, go_sem, r0, r1, r2]) rfl ?_
  exact ⟨_, rfl, err_end HC9.out HERR.out, setErr_below HB9.out (Nat.le_refl _)⟩

set_option maxRecDepth 100000 in
theorem refPut_bad {X : Nat → Prop} (w : World) (base b r n : Nat) (sets : List (List Int)) (A : Option Addr) (m c : Nat) (xs : List Int) (hm : m = xs.length)
    (hbag : RefAt w base b r n sets X) (hr : RI w .i64 A xs) (i : Nat) (hf : firstBad n xs = some i) :
    Calls Tryd.prog 49 #[.pointer (some ⟨b, 0, none⟩), .slice A m c] w fun e w' => ∃ v, e = .returned (.tuple #[.int .i64 0, .bool false, v]) ∧ ErrVal w' 0 v 3 [(opBag, (i : Int))] ∧ Below w.heap.size w w' := by
  subst hm
  have HCELL := hid (ErrCell.new w)
  have HBW := hid (below_new w (.cells #[.int .i64 0, .slice none 0 0, .slice none 0 0] 39))
  obtain ⟨hbase, hbl, hn, hsl, hc0, hc2, hmap⟩ := (hbag.below HBW.out).facts
  have HR := hid (hr.below HBW.out (Nat.le_refl _))
  have HF := hid hf
  clear hr hbag hmap hf
  go_enter Tryd.func49, Tryd.ntmps49
  go_wp2_with fail
  refine (outside_calls _ b n A c xs HR.out hc0).mono ?_
  rintro e w1 ⟨rfl, kd, rfl⟩
  replace HCELL : Hid (ErrCell ((w.alloc (.cells #[.int .i64 0, .slice none 0 0, .slice none 0 0] 39)).drewN kd) w.heap.size (.int .i64 0) (.slice none 0 0) (.slice none 0 0)) := ⟨HCELL.out.blk⟩
  replace HBW := hid (below_drawn HBW.out kd)
  rw [HF.out]
  have hi0 : (0 : Int) ≤ (i : Int) := by omega
  simp only [Option.map_some, Option.getD_some]
  go_wp2_with fail
  refine (rawNew_form _ _ _ _).mono ?_
  rintro e w9 ⟨Aa, ca, Ab, cb, rfl, herr9, hb9⟩
  have HC9 : Hid (ErrCell w9 w.heap.size (.int .i64 0) (.slice none 0 0) (.slice none 0 0)) := HCELL.out.below hb9
  obtain ⟨c0, f0, c1, f1, c2, f2, r0, r1, r2⟩ := HC9.out.facts (.int .i64 3) (.slice Aa 1 ca) (.slice Ab 1 cb)
  have HB9 := hid (below_then HBW.out hb9 HBW.out.size)
  have HERR := hid herr9
  clear hb9 herr9
  go_wp2_with fail
  refine bodyPost_ret (v := .tuple #[.int .i64 0, .bool false, .agg #[.int .i64 3, .slice Aa 1 ca, .slice Ab 1 cb]]) (by simp [results, Tryd.results49, go_sem, r0, r1, r2]) rfl ?_
  exact ⟨_, rfl, err_end HC9.out HERR.out, setErr_below HB9.out (Nat.le_refl _)⟩

theorem refPut_facts {w5 w6 : World} {base b k n r m N : Nat} {vs v6 : Value} {rows : List Value} (hblk : w5.heap[b]? = some (.cells #[.int .i64 n, vs, .map (some r)] 54 (0, 0))) (own5 : w5.ownsRow base 22 1 vs m rows) (hg : w5.grownBy w6 vs.ownBlock)
    (hC : ErrCell w5 k (.int .i64 N) (.slice none 0 0) (.slice none 0 0)) (hkb : k ≠ b) :
    w6.cell? ⟨b, 1, none⟩ = some vs ∧ w6.frozen? ⟨b, 1, none⟩ = false ∧ (w6.setCell ⟨b, 1, none⟩ v6).cell? ⟨b, 1, none⟩ = some v6 ∧ ErrCell (w6.setCell ⟨b, 1, none⟩ v6) k (.int .i64 N) (.slice none 0 0) (.slice none 0 0) := by
  have blk6 := (hg.block b (Array.getElem?_eq_some_iff.1 hblk).1 (own_not_block own5 hblk (by decide))).trans hblk
  have e6 := (hg.block k (Array.getElem?_eq_some_iff.1 hC.blk).1 (own_not_block own5 hC.blk (by decide))).trans hC.blk
  refine ⟨(cells3 blk6).2.1, by simp [World.frozen?, blk6], ?_, ⟨?_⟩⟩
  · have := heap_setCell_same w6 b 1 _ _ v6 blk6
    exact (cells3 (x := .int .i64 n) (y := v6) (z := .map (some r)) (by rw [this]; rfl)).2.1
  · rw [Below.heap_setCell _ _ _ _ (show k ≠ b from hkb)]
    exact e6

set_option maxRecDepth 100000 in
theorem refPut_ok {X : Nat → Prop} (w : World) (hX : ∀ k, w.heap.size ≤ k → X k) (base b r n : Nat) (sets : List (List Int)) (A : Option Addr) (m c : Nat) (xs ws : List Int) (hm : m = xs.length)
    (hbag : RefAt w base b r n sets X) (hr : RI w .i64 A xs) (hA : A = none → c = 0) (hl : xs.length * 8 ≤ 140737488355328) (hf : firstBad n xs = none) (hw : Clean n ws) (hrs : rset xs = members n ws) :
    Calls Tryd.prog 49 #[.pointer (some ⟨b, 0, none⟩), .slice A m c] w (RPutPost X base b r n sets ws w) := by
  subst hm
  have HCELL := hid (ErrCell.new w)
  have HBW := hid (below_new w (.cells #[.int .i64 0, .slice none 0 0, .slice none 0 0] 39))
  have HBW0 := HBW
  obtain ⟨hbase, hbl0, hn, hsl, _⟩ := hbag.facts
  have hc0 := (hbag.below HBW.out).facts.2.2.2.2.1
  have HR := hid (hr.below HBW.out (Nat.le_refl _))
  have HNIL := hid hA
  have HBAG := hid hbag
  have HALL := hid (firstBad_all hf)
  have HF := hid hf
  have HW := hid hw
  have HRS := hid hrs
  have HKR : Hid (∀ y ∈ members n ws, 0 ≤ y ∧ y < 8192) := fun y hy => by have := members_range y hy; omega
  have HKL : Hid ((members n ws).length ≤ 8192) := by have := rset_len HALL.out; rw [hrs] at this; show _ ≤ 8192; omega
  have hks : (strOfNums (keyRI (members n ws))).size ≤ maxLen := by rw [strOfNums_size, keyRI_length]; have := HKL.out; simp only [maxLen]; omega
  clear hr hA hbag hf hw hrs
  go_enter Tryd.func49, Tryd.ntmps49
  go_wp2_with fail
  refine (outside_calls _ b n A c xs HR.out hc0).mono ?_
  rintro e w1 ⟨rfl, kd, rfl⟩
  replace HCELL : Hid (ErrCell ((w.alloc (.cells #[.int .i64 0, .slice none 0 0, .slice none 0 0] 39)).drewN kd) w.heap.size (.int .i64 0) (.slice none 0 0) (.slice none 0 0)) := ⟨HCELL.out.blk⟩
  replace HBW := hid (below_drawn HBW.out kd)
  rw [HF.out]
  simp only [Option.map_none, Option.getD_none]
  clear hc0
  go_wp2_with fail
  refine (rset_calls _ A _ c xs rfl (HR.out.below (below_drawn (Below.refl _ _) kd) (Nat.le_refl _)) HNIL.out hl).mono ?_
  rintro e w2 ⟨v2, rfl, hown2, hb2⟩
  rw [HRS.out] at hown2
  obtain ⟨A2, c2, hv2, hcc2, hmm2, hri2⟩ := own_ri hown2
  subst hv2
  have HO2 := hid hown2
  have HRI2 := hid hri2
  have HB2 := hid (below_then HBW.out hb2 HBW.out.size)
  have HC2 : Hid (ErrCell w2 w.heap.size (.int .i64 0) (.slice none 0 0) (.slice none 0 0)) := HCELL.out.below hb2
  have HBAG2 := hid (HBAG.out.below HB2.out)
  clear hown2 hri2 hb2 HR HNIL hmm2 hcc2
  generalize hms : members n ws = ms at *
  have HMS := hid hms
  clear hms
  obtain ⟨vs, rows, hrep⟩ := HBAG2.out
  have HREP := hid hrep
  obtain ⟨A', c', hvs, hc', hm'⟩ := own_slice hrep.own
  have k1 := (cells3 hrep.blk).2.1
  have k2 := (cells3 hrep.blk).2.2
  have hbl : b < w2.heap.size := World.block_lt_of_cell? w2 _ k2
  clear hrep
  cases hfi : refFind n sets (keyR ms) with
  | some id =>
    have HFI := hid hfi
    clear hfi
    go_wp2_with fail
    go_region_held3 (fun w' => w'.cell? ⟨b, 2, none⟩ = some (.map (some r))) (first | go_keep | assumption)
      (first
        | (go_at_call 89; refine (refKey_calls _ A2 c2 ms (HRI2.out.below (below_drawn (Below.refl _ _) 1) (Nat.le_refl _)) HKR.out HKL.out).mono ?_; rintro e w3 ⟨rfl, hb3⟩; have hd3 := (hb3.cell (show b < _ from hbl)).trans k2; have HB3 : Hid (Below w2.heap.size w2 w3) := ⟨hb3.os, hb3.tape, hb3.output, hb3.size, hb3.block⟩; clear hb3; have hlk := (HREP.out.map.of_heap (HB3.out.block r HREP.out.map.lt)).lookup (strOfNums (keyRI ms)) hks; have hfx := HFI.out; unfold keyR at hfx; rw [hfx] at hlk; clear hfx; simp only [Option.getD_some, Option.isSome_some] at hlk))
    have HC9 : Hid (ErrCell w3 w.heap.size (.int .i64 0) (.slice none 0 0) (.slice none 0 0)) := HC2.out.below HB3.out
    have HB9 := hid (below_then HB2.out HB3.out HB2.out.size)
    obtain ⟨c0, f0, c1, f1, c2', f2, r0, r1, r2⟩ := HC9.out.facts (.int .i64 0) (.slice none 0 0) (.slice none 0 0)
    go_wp2_with fail
    refine bodyPost_ret (v := .tuple #[.int .i64 id, .bool false, zeroErr]) (by simp [results, Tryd.results49, go_sem, r0, r1, r2, zeroErr]) rfl ?_
    have hbE := setErr_below (k := w.heap.size) (x' := .int .i64 0) (y' := .slice none 0 0) (z' := .slice none 0 0) HB9.out (Nat.le_refl _)
    refine ⟨hbE.mono hbase, RefFrame.of_below r hbE, ?_⟩
    rw [HMS.out, HFI.out]
    exact ⟨_, rfl, ErrVal.zero _ _, HBAG.out.below hbE⟩
  | none =>
    have HFI := hid hfi
    clear hfi
    by_cases hfull : sets.length = 4096
    · have HFULL := hid hfull
      have hge : (4096 : Int) ≤ (sets.length : Int) := by omega
      clear hfull
      subst hvs
      go_wp2_with fail
      go_region_held3 (fun w' => w'.cell? ⟨b, 2, none⟩ = some (.map (some r))) (first | go_keep | assumption)
        (first
          | (go_at_call 89; refine (refKey_calls _ A2 c2 ms (HRI2.out.below (below_drawn (Below.refl _ _) 1) (Nat.le_refl _)) HKR.out HKL.out).mono ?_; rintro e w3 ⟨rfl, hb3⟩; have hd3 := (hb3.cell (show b < _ from hbl)).trans k2; have HB3 : Hid (Below w2.heap.size w2 w3) := ⟨hb3.os, hb3.tape, hb3.output, hb3.size, hb3.block⟩; clear hb3; have hlk := (HREP.out.map.of_heap (HB3.out.block r HREP.out.map.lt)).lookup (strOfNums (keyRI ms)) hks; have hfx := HFI.out; unfold keyR at hfx; rw [hfx] at hlk; clear hfx; simp only [Option.getD_none, Option.isSome_none] at hlk))
      have k13 := (HB3.out.cell (show b < w2.heap.size from hbl)).trans k1
      replace HCELL : Hid (ErrCell w3 w.heap.size (.int .i64 0) (.slice none 0 0) (.slice none 0 0)) := HC2.out.below HB3.out
      replace HBW := hid (below_then HB2.out HB3.out HB2.out.size)
      go_wp2_with fail
      refine (rawNew_form _ _ _ _).mono ?_
      rintro e w9 ⟨Aa, ca, Ab, cb, rfl, herr9, hb9⟩
      have HC9 : Hid (ErrCell w9 w.heap.size (.int .i64 0) (.slice none 0 0) (.slice none 0 0)) := HCELL.out.below hb9
      obtain ⟨c0, f0, c1, f1, c2, f2, r0, r1, r2⟩ := HC9.out.facts (.int .i64 4) (.slice Aa 1 ca) (.slice Ab 1 cb)
      have HB9 := hid (below_then HBW.out hb9 HBW.out.size)
      have HERR := hid herr9
      clear hb9 herr9
      go_wp2_with fail
      refine bodyPost_ret (v := .tuple #[.int .i64 0, .bool false, .agg #[.int .i64 4, .slice Aa 1 ca, .slice Ab 1 cb]]) (by simp [results, Tryd.results49, go_sem, r0, r1, r2]) rfl ?_
      have hbE := setErr_below (k := w.heap.size) (x' := .int .i64 4) (y' := .slice Aa 1 ca) (z' := .slice Ab 1 cb) HB9.out (Nat.le_refl _)
      refine ⟨hbE.mono hbase, RefFrame.of_below r hbE, ?_⟩
      rw [HMS.out, HFI.out]
      show if sets.length = 4096 then _ else _
      rw [if_pos HFULL.out]
      exact ⟨_, rfl, err_end HC9.out HERR.out, HBAG.out.below hbE⟩
    · have hlt : sets.length < 4096 := by omega
      have hge : ¬ (4096 : Int) ≤ (sets.length : Int) := by omega
      have HFULL := hid hfull
      clear hfull
      subst hvs
      go_wp2_with fail
      go_region_held3 (fun w' => w'.cell? ⟨b, 2, none⟩ = some (.map (some r))) (first | go_keep | assumption)
        (first
          | (go_at_call 89; refine (refKey_calls _ A2 c2 ms (HRI2.out.below (below_drawn (Below.refl _ _) 1) (Nat.le_refl _)) HKR.out HKL.out).mono ?_; rintro e w3 ⟨rfl, hb3⟩; have hd3 := (hb3.cell (show b < _ from hbl)).trans k2; have HB3 : Hid (Below w2.heap.size w2 w3) := ⟨hb3.os, hb3.tape, hb3.output, hb3.size, hb3.block⟩; clear hb3; have hlk := (HREP.out.map.of_heap (HB3.out.block r HREP.out.map.lt)).lookup (strOfNums (keyRI ms)) hks; have hfx := HFI.out; unfold keyR at hfx; rw [hfx] at hlk; clear hfx; simp only [Option.getD_none, Option.isSome_none] at hlk))
      have k13 := (HB3.out.cell (show b < w2.heap.size from hbl)).trans k1
      have k23 := (HB3.out.cell (show b < w2.heap.size from hbl)).trans k2
      have HRI3 := hid (HRI2.out.below HB3.out (Nat.le_refl _))
      have hbl3 : b < w3.heap.size := World.block_lt_of_cell? w3 _ k23
      have HREP3 := hid (HREP.out.below HB3.out)
      have hrne0 : ∀ c t f, w2.heap[r]? ≠ some (.cells c t f) := fun c t f h => by
        obtain ⟨D, ⟨es, clock, h1, _⟩, _⟩ := HREP.out.map
        rw [h1] at h; cases h
      have HRN := hid hrne0
      have hbr : b ≠ r := fun e => hrne0 _ _ _ (e ▸ HREP.out.blk)
      have HOV := hid HO2.out
      clear hrne0 hd3 hlk
      go_wp2_with fail
      go_region_held3 (fun w' => w'.cell? ⟨b, 2, none⟩ = some (.map (some r)) ∧ w'.cell? ⟨b, 1, none⟩ = some (.slice A' sets.length c')) (first | go_keep | (constructor <;> assumption))
        (first
          | (go_at_call 89; refine (refKey_calls _ A2 c2 ms (HRI3.out.below (below_drawn (Below.refl _ _) 1) (Nat.le_refl _)) HKR.out HKL.out).mono ?_; rintro e w4 ⟨rfl, hb4⟩; have hd4 := (hb4.cell (show b < _ from hbl3)).trans k23; have hd5 := (hb4.cell (show b < _ from hbl3)).trans k13; have HB4 : Hid (Below w3.heap.size w3 w4) := ⟨hb4.os, hb4.tape, hb4.output, hb4.size, hb4.block⟩; clear hb4; have HREP4 := hid (HREP3.out.below HB4.out); obtain ⟨w5, hst, hM5, hg5, hs5⟩ := HREP4.out.map.store (by simp only [maxLen]; omega) (strOfNums (keyRI ms)) hks (sets.length : Int) ⟨by omega, by omega⟩; have HM5 := hid hM5; have HG5 := hid hg5; have HS5 := hid hs5; have blk5 := (hg5.block b (Array.getElem?_eq_some_iff.1 HREP4.out.blk).1 (by simpa using hbr)).trans HREP4.out.blk; obtain ⟨j0, j1, j2⟩ := cells3 blk5; have HBLK5 := hid blk5; clear hM5 hg5 hs5 blk5))
      have HBX := hid (below_then HB3.out HB4.out HB3.out.size)
      have hrne4 : ∀ c t f, w4.heap[r]? ≠ some (.cells c t f) := fun c t f h => by
        obtain ⟨D, ⟨es, clock, h1, _⟩, _⟩ := HREP4.out.map
        rw [h1] at h; cases h
      have HRN4 := hid hrne4
      have HO5 := hid (HREP4.out.own.kept HG5.out (.inr (Ne.symm (own_not_map HREP4.out.own hrne4))))
      have hbase2 : base ≤ w2.heap.size := Nat.le_trans hbase HB2.out.size
      have hbase4 : base ≤ w4.heap.size := Nat.le_trans hbase2 HBX.out.size
      have hbase5 : base ≤ w5.heap.size := by have := HS5.out; omega
      have B5 : Hid (Below base w2 w5) := (HBX.out.mono hbase2).grown HG5.out hbase4 (fun k hk => by obtain rfl := Option.some.inj hk; exact HREP.out.lr)
      have hrlt : r < w.heap.size := HBAG.out.facts.2.2.2.2.2.2.lt
      have HC4 := hid (HC2.out.below HBX.out)
      have HC5 : Hid (ErrCell w5 w.heap.size (.int .i64 (0 : Nat)) (.slice none 0 0) (.slice none 0 0)) := ⟨(HG5.out.block _ (Array.getElem?_eq_some_iff.1 HC4.out.blk).1 (by simp; omega)).trans HC4.out.blk⟩
      have hkb : w.heap.size ≠ b := by omega
      have hapl : (sets.length + 1) * 24 ≤ 140737488355328 := by omega
      clear hst hrne4
      go_wp2_with (at_builtin; refine append1 (w0 := w2) base (by rfl) (.tmp 58) (.tmp 60) 51 22 (.slice none 0 0) 24 (by rfl) Tryd.underlying51 Tryd.infoInts (by rfl) (by decide) _ _ _ _ (by rfl) (by rfl) (by rfl) HO5.out B5.out hbase5 hapl ?_; intro v6 w6 o6 b6 g6 _; obtain ⟨A6, c6, hv6, hc6, hm6⟩ := own_slice o6; subst hv6; obtain ⟨q1, q2, q3, q4⟩ := refPut_facts (v6 := .slice A6 (sets.length + 1) c6) HBLK5.out HO5.out g6 HC5.out hkb; have HC6 := hid q4; have HO6 := hid o6; have HB6 := hid b6; have HG6 := hid g6; obtain ⟨c0, f0, c1, f1, c2', f2, r0, r1, r2⟩ := q4.facts (.int .i64 0) (.slice none 0 0) (.slice none 0 0); clear o6 b6 g6 q4)
      refine bodyPost_ret (v := .tuple #[.int .i64 (sets.length : Int), .bool true, zeroErr]) (by simp [results, Tryd.results49, go_sem, r0, r1, r2, zeroErr]) rfl ?_
      obtain rfl := HMS.out
      have hvo := own_base HO2.out (base' := base) (Nat.le_trans hbase HBW.out.size)
      have hvX : ∀ k, (Value.slice A2 (members n ws).length c2).ownBlock = some k → X k := fun k e => hX k (Nat.le_trans HBW.out.size (HO2.out.lt k e).1)
      obtain ⟨d1, d2, d3⟩ := ref_rep HREP.out hvX HBX.out HM5.out HG5.out HS5.out HG6.out HB6.out HO6.out HFI.out hlt hvo HW.out HRN4.out
      have hE : Below w.heap.size (w6.setCell ⟨b, 1, none⟩ (.slice A6 (sets.length + 1) c6)) (setErr (w6.setCell ⟨b, 1, none⟩ (.slice A6 (sets.length + 1) c6)) w.heap.size (.int .i64 0) (.slice none 0 0) (.slice none 0 0)) := setErr_below (Below.refl _ _) (Nat.le_refl _)
      refine ⟨?_, ?_, ?_⟩
      · exact ((HB2.out.mono hbase).trans d1).trans (hE.mono hbase)
      · exact (d2.after_below HB2.out).then_below hE
      · rw [HFI.out]
        show if sets.length = 4096 then _ else _
        rw [if_neg HFULL.out]
        exact ⟨_, rfl, ErrVal.zero _ _, d3.same HC6.out.blk setErr_same⟩
end Go.Proofs.YtapebbejdgeijaaDoor
