/- The reference bag: Find. -/
import Derived.Test.YtapebbejdgeijaaDoorRefD
namespace Go.Proofs.YtapebbejdgeijaaDoor
open Go.RowKit Go.Extern.Stop Go.Stop Go.Extern Go.Deep

theorem firstBad_all {n : Nat} {xs : List Int} (h : firstBad n xs = none) : ∀ x ∈ xs, 0 ≤ x ∧ x < (n : Int) := by
  unfold firstBad at h
  rw [List.findIdx?_eq_none_iff] at h
  intro x hx
  have := h x hx
  simp at this
  omega
theorem rset_range {n : Nat} {xs : List Int} (h : ∀ x ∈ xs, 0 ≤ x ∧ x < (n : Int)) : ∀ x ∈ rset xs, 0 ≤ x ∧ x < (n : Int) := fun x hx => h x (mem_rset.1 hx)
theorem rset_len {n : Nat} {xs : List Int} (h : ∀ x ∈ xs, 0 ≤ x ∧ x < (n : Int)) : (rset xs).length ≤ n := by
  rw [rset_members h]
  have h0 := List.length_filter_le (memb (bitsOf n xs)) (List.range n)
  rw [List.length_range] at h0
  unfold members; rw [List.length_map]; omega

def RFindPost (n : Nat) (sets : List (List Int)) (xs : List Int) (w : World) (e : Ending) (w' : World) : Prop :=
  Below w.heap.size w w' ∧ match firstBad n xs with
  | some i => ∃ v, e = .returned (.tuple #[.int .i64 0, v]) ∧ ErrVal w' 0 v 3 [(opBag, (i : Int))]
  | none => ∃ v, e = .returned (.tuple #[.int .i64 ((refFind n sets (keyR (rset xs))).getD (-1)), v]) ∧ ErrVal w' 0 v 0 []

theorem RefAt.facts {X : Nat → Prop} {w : World} {base b r n : Nat} {sets : List (List Int)} (h : RefAt w base b r n sets X) : base ≤ w.heap.size ∧ b < w.heap.size ∧ n ≤ 8192 ∧ sets.length ≤ 4096 ∧ w.cell? ⟨b, 0, none⟩ = some (.int .i64 n) ∧ w.cell? ⟨b, 2, none⟩ = some (.map (some r)) ∧ MapSI w r sets.length (refFind n sets) := by
  obtain ⟨vs, rows, h⟩ := h
  have hbl := (Array.getElem?_eq_some_iff.1 h.blk).1
  exact ⟨Nat.le_trans h.lb (Nat.le_of_lt hbl), hbl, h.nle, h.len, (cells3 h.blk).1, (cells3 h.blk).2.2, h.map⟩

set_option maxRecDepth 100000 in
theorem refFind_nil (w : World) (u : Value) :
    Calls Tryd.prog 50 #[.pointer none, u] w fun e w' => ∃ v, e = .returned (.tuple #[.int .i64 0, v]) ∧ ErrVal w' 0 v 11 [(opBag, 0)] ∧ Below w.heap.size w w' := by
  have HCELL := hid (ErrCell.new w)
  have HBW := hid (below_new w (.cells #[.int .i64 0, .slice none 0 0, .slice none 0 0] 39))
  go_enter Tryd.func50, Tryd.ntmps50
  go_wp2_with fail
  refine (rawNew_form _ _ _ _).mono ?_
  rintro e w9 ⟨Aa, ca, Ab, cb, rfl, herr9, hb9⟩
  have HC9 : Hid (ErrCell w9 w.heap.size (.int .i64 0) (.slice none 0 0) (.slice none 0 0)) := HCELL.out.below hb9
  obtain ⟨c0, f0, c1, f1, c2, f2, r0, r1, r2⟩ := HC9.out.facts (.int .i64 11) (.slice Aa 1 ca) (.slice Ab 1 cb)
  have HB9 := hid (below_then HBW.out hb9 HBW.out.size)
  have HERR := hid herr9
  clear hb9 herr9
  go_wp2_with fail
  refine bodyPost_ret (v := .tuple #[.int .i64 0, .agg #[.int .i64 11, .slice Aa 1 ca, .slice Ab 1 cb]]) (by simp [results, Tryd.results50, go_sem, r0, r1, r2]) rfl ?_
  exact ⟨_, rfl, err_end HC9.out HERR.out, setErr_below HB9.out (Nat.le_refl _)⟩

set_option maxRecDepth 100000 in
theorem refFind_calls {X : Nat → Prop} (w : World) (base b r n : Nat) (sets : List (List Int)) (A : Option Addr) (c : Nat) (xs : List Int)
    (hbag : RefAt w base b r n sets X) (hr : RI w .i64 A xs) (hA : A = none → c = 0) (hl : xs.length * 8 ≤ 140737488355328) :
    Calls Tryd.prog 50 #[.pointer (some ⟨b, 0, none⟩), .slice A xs.length c] w (RFindPost n sets xs w) := by
  have HCELL := hid (ErrCell.new w)
  have HBW := hid (below_new w (.cells #[.int .i64 0, .slice none 0 0, .slice none 0 0] 39))
  obtain ⟨hbase, hbl, hn, hsl, hc0, hc2, hmap⟩ := (hbag.below HBW.out).facts
  have HR := hid (hr.below HBW.out (Nat.le_refl _))
  have HNIL := hid hA
  clear hr hA hbag
  go_enter Tryd.func50, Tryd.ntmps50
  go_wp2_with fail
  refine (outside_calls _ b n A c xs HR.out hc0).mono ?_
  rintro e w1 ⟨rfl, kd, rfl⟩
  replace HCELL : Hid (ErrCell ((w.alloc (.cells #[.int .i64 0, .slice none 0 0, .slice none 0 0] 39)).drewN kd) w.heap.size (.int .i64 0) (.slice none 0 0) (.slice none 0 0)) := ⟨HCELL.out.blk⟩
  replace HBW := hid (below_drawn HBW.out kd)
  cases hf : firstBad n xs with
  | some i =>
    have HF := hid hf
    have hi0 : (0 : Int) ≤ (i : Int) := by omega
    simp only [Option.map_some, Option.getD_some]
    clear hf hmap
    go_wp2_with fail
    refine (rawNew_form _ _ _ _).mono ?_
    rintro e w9 ⟨Aa, ca, Ab, cb, rfl, herr9, hb9⟩
    have HC9 : Hid (ErrCell w9 w.heap.size (.int .i64 0) (.slice none 0 0) (.slice none 0 0)) := HCELL.out.below hb9
    obtain ⟨c0, f0, c1, f1, c2, f2, r0, r1, r2⟩ := HC9.out.facts (.int .i64 3) (.slice Aa 1 ca) (.slice Ab 1 cb)
    have HB9 := hid (below_then HBW.out hb9 HBW.out.size)
    have HERR := hid herr9
    clear hb9 herr9
    go_wp2_with fail
    refine bodyPost_ret (v := .tuple #[.int .i64 0, .agg #[.int .i64 3, .slice Aa 1 ca, .slice Ab 1 cb]]) (by simp [results, Tryd.results50, go_sem, r0, r1, r2]) rfl ?_
    refine ⟨setErr_below HB9.out (Nat.le_refl _), ?_⟩
    rw [HF.out]
    exact ⟨_, rfl, err_end HC9.out HERR.out⟩
  | none =>
    have HALL := hid (firstBad_all hf)
    have HF := hid hf
    simp only [Option.map_none, Option.getD_none]
    have HMP := hid hmap
    have HKR : Hid (∀ y ∈ rset xs, 0 ≤ y ∧ y < 8192) := fun y hy => by have := rset_range HALL.out y hy; omega
    have HKL : Hid ((rset xs).length ≤ 8192) := by have := rset_len HALL.out; show _ ≤ 8192; omega
    have hks : (strOfNums (keyRI (rset xs))).size ≤ maxLen := by rw [strOfNums_size, keyRI_length]; have := HKL.out; simp only [maxLen]; omega
    have HLK := hid (fun (w' : World) (h : Below (w.alloc (.cells #[.int .i64 0, .slice none 0 0, .slice none 0 0] 39)).heap.size (w.alloc (.cells #[.int .i64 0, .slice none 0 0, .slice none 0 0] 39)) w') => (HMP.out.of_heap (h.block r HMP.out.lt)).lookup (strOfNums (keyRI (rset xs))) hks)
    have HF2 : Hid (refFind n sets (strOfNums (keyRI (rset xs))).data.toList = refFind n sets (keyR (rset xs))) := rfl
    clear hf hmap hks
    cases hfi : refFind n sets (keyR (rset xs)) with
    | none =>
      have HFI := hid (HF2.out.trans hfi)
      have HFJ := hid hfi
      clear hfi HF2
      go_wp2_with fail
      go_region_held3 (fun w' => w'.cell? ⟨b, 2, none⟩ = some (.map (some r))) (first | go_keep | assumption)
        (first
          | (go_at_call 88; refine (rset_calls _ A _ c xs rfl (HR.out.below (below_drawn (below_drawn (Below.refl _ _) _) 1) (Nat.le_refl _)) HNIL.out hl).mono ?_; rintro e w2 ⟨v2, rfl, hown2, hb2⟩; obtain ⟨A2, c2, hv2, hcc2, hmm2, hri2⟩ := own_ri hown2; subst hv2; have HRI2 := hid hri2; have HB2 := hid hb2; have hd2 := (hb2.cell (show b < _ from hbl)).trans hc2; clear hown2 hri2 hb2)
          | (go_at_call 89; refine (refKey_calls _ A2 c2 (rset xs) HRI2.out HKR.out HKL.out).mono ?_; rintro e w3 ⟨rfl, hb3⟩; have hd3 := (hb3.cell (show b < _ from World.block_lt_of_cell? _ _ hd2)).trans hd2; have HB3 := hid (below_then HB2.out hb3 HB2.out.size); clear hb3; have hlk := HLK.out w3 ⟨HB3.out.os, HB3.out.tape, HB3.out.output, HB3.out.size, HB3.out.block⟩; rw [HFI.out] at hlk; simp only [Option.getD_none, Option.isSome_none] at hlk))
      have HB4 : Hid (Below w.heap.size w w3) := below_then HBW.out (B' := (w.alloc (.cells #[.int .i64 0, .slice none 0 0, .slice none 0 0] 39)).heap.size) ⟨HB3.out.os, HB3.out.tape, HB3.out.output, HB3.out.size, HB3.out.block⟩ HBW.out.size
      have HC9 : Hid (ErrCell w3 w.heap.size (.int .i64 0) (.slice none 0 0) (.slice none 0 0)) := HCELL.out.below ⟨HB3.out.os, HB3.out.tape, HB3.out.output, HB3.out.size, HB3.out.block⟩
      obtain ⟨c0, f0, c1, f1, c2', f2, r0, r1, r2⟩ := HC9.out.facts (.int .i64 0) (.slice none 0 0) (.slice none 0 0)
      go_wp2_with fail
      refine bodyPost_ret (v := .tuple #[.int .i64 (-1), zeroErr]) (by simp [results, Tryd.results50, go_sem, r0, r1, r2, zeroErr]) rfl ?_
      refine ⟨setErr_below HB4.out (Nat.le_refl _), ?_⟩
      rw [HF.out]
      show ∃ v, _ ∧ _
      rw [HFJ.out]
      exact ⟨_, rfl, ErrVal.zero _ _⟩
    | some id =>
      have HFI := hid (HF2.out.trans hfi)
      have HFJ := hid hfi
      clear hfi HF2
      go_wp2_with fail
      go_region_held3 (fun w' => w'.cell? ⟨b, 2, none⟩ = some (.map (some r))) (first | go_keep | assumption)
        (first
          | (go_at_call 88; refine (rset_calls _ A _ c xs rfl (HR.out.below (below_drawn (below_drawn (Below.refl _ _) _) 1) (Nat.le_refl _)) HNIL.out hl).mono ?_; rintro e w2 ⟨v2, rfl, hown2, hb2⟩; obtain ⟨A2, c2, hv2, hcc2, hmm2, hri2⟩ := own_ri hown2; subst hv2; have HRI2 := hid hri2; have HB2 := hid hb2; have hd2 := (hb2.cell (show b < _ from hbl)).trans hc2; clear hown2 hri2 hb2)
          | (go_at_call 89; refine (refKey_calls _ A2 c2 (rset xs) HRI2.out HKR.out HKL.out).mono ?_; rintro e w3 ⟨rfl, hb3⟩; have hd3 := (hb3.cell (show b < _ from World.block_lt_of_cell? _ _ hd2)).trans hd2; have HB3 := hid (below_then HB2.out hb3 HB2.out.size); clear hb3; have hlk := HLK.out w3 ⟨HB3.out.os, HB3.out.tape, HB3.out.output, HB3.out.size, HB3.out.block⟩; rw [HFI.out] at hlk; simp only [Option.getD_some, Option.isSome_some] at hlk))
      have HB4 : Hid (Below w.heap.size w w3) := below_then HBW.out (B' := (w.alloc (.cells #[.int .i64 0, .slice none 0 0, .slice none 0 0] 39)).heap.size) ⟨HB3.out.os, HB3.out.tape, HB3.out.output, HB3.out.size, HB3.out.block⟩ HBW.out.size
      have HC9 : Hid (ErrCell w3 w.heap.size (.int .i64 0) (.slice none 0 0) (.slice none 0 0)) := HCELL.out.below ⟨HB3.out.os, HB3.out.tape, HB3.out.output, HB3.out.size, HB3.out.block⟩
      obtain ⟨c0, f0, c1, f1, c2', f2, r0, r1, r2⟩ := HC9.out.facts (.int .i64 0) (.slice none 0 0) (.slice none 0 0)
      go_wp2_with fail
      refine bodyPost_ret (v := .tuple #[.int .i64 id, zeroErr]) (by simp [results, Tryd.results50, go_sem, r0, r1, r2, zeroErr]) rfl ?_
      refine ⟨setErr_below HB4.out (Nat.le_refl _), ?_⟩
      rw [HF.out]
      show ∃ v, _ ∧ _
      rw [HFJ.out]
      exact ⟨_, rfl, ErrVal.zero _ _⟩
end Go.Proofs.YtapebbejdgeijaaDoor
