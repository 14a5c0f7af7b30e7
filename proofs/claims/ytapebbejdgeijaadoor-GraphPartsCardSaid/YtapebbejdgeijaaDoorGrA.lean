/- package graph: wrong, Check. -/
import Derived.Test.YtapebbejdgeijaaDoorRule
import Derived.Test.YtapebbejdgeijaaDoorTarF
namespace Go.Proofs.YtapebbejdgeijaaDoor
open Go.RowKit Go.Extern.Stop Go.Stop Go.Extern Go.Deep Tar

def opGraph : ByteArray := ⟨#[103, 114, 97, 112, 104]⟩
theorem gWrong_calls (B : Nat) (S : Nat → Addr) (w : World) (hE : Env B S w) (at_ n : Int) (hn : (n == 0) = false) :
    Calls Tryd.prog 71 #[.int .i64 at_, .int .i64 n] w (RetErr S (rootIx n) [(opGraph, at_)] w) := by
  have HE := hid hE
  clear hE
  go_enter Tryd.func71, Tryd.ntmps71
  go_wp2_with (go_at_call 80; refine (faultNew_calls B S _ HE.out _ _ _ hn).mono ?_; rintro e w' ⟨v, rfl, hc, hb⟩)
  go_ret
  exact ⟨_, rfl, hc, hb⟩

theorem gCheckC_calls (w : World) (g : Nat) (A : Option Addr) (m c : Nat) (x : Int) (hg : w.cell? ⟨g, 0, none⟩ = some (.slice A m c)) :
    Calls Tryd.prog 73 #[.int .i64 x, .pointer (some ⟨g, 0, none⟩)] w fun e w' => e = .returned (.bool (decide (x < 0 ∨ (m : Int) ≤ x))) ∧ w' = w := by
  by_cases h0 : x < 0
  · go_enter Tryd.func73, Tryd.ntmps73
    go_wp2_with fail
    go_ret
    exact ⟨by simp [h0], rfl⟩
  · go_enter Tryd.func73, Tryd.ntmps73
    go_wp2_with fail
    go_ret
    exact ⟨by simp; omega, rfl⟩
theorem Tryd.entersCheckC : Enters Tryd.prog 73 := enters_of Tryd.func73 (by kernel_rfl) rfl

theorem any_findIdx (xs : List Int) (f : Int → Bool) : decide ((0 : Int) ≤ ((xs.findIdx? f).map fun i : Nat => (i : Int)).getD (-1)) = xs.any f := by
  cases h : xs.findIdx? f with
  | none =>
    rw [List.findIdx?_eq_none_iff] at h
    symm
    rw [show decide ((0 : Int) ≤ (Option.map (fun i : Nat => (i : Int)) none).getD (-1)) = false from rfl, List.any_eq_false]
    intro x hx
    simp [h x hx]
  | some i =>
    obtain ⟨hi, hf, _⟩ := List.findIdx?_eq_some_iff_getElem.1 h
    symm
    rw [show decide ((0 : Int) ≤ (Option.map (fun i : Nat => (i : Int)) (some i)).getD (-1)) = true from decide_eq_true (by simp), List.any_eq_true]
    exact ⟨_, List.getElem_mem hi, hf⟩
set_option maxRecDepth 100000 in
/-- slices.ContainsFunc of a test that leaves memory. -/
theorem containsFunc_calls (w : World) (F : Nat) (cap : Array Value) (A : Option Addr) (m c : Nat) (xs : List Int) (hm : m = xs.length) (hr : RI w .i64 A xs) (f : Int → Bool)
    (he : Enters Tryd.prog F) (hf : ∀ x, Calls Tryd.prog F (#[.int .i64 x] ++ cap) w fun e w' => e = .returned (.bool (f x)) ∧ w' = w) :
    Calls Tryd.prog 72 #[.slice A m c, .func (.func F) #[] cap] w fun e w' => e = .returned (.bool (xs.any f)) ∧ w' = w := by
  have HF := hid hf
  have HN := hid he
  have HR := hid hr
  have HM := hid hm
  clear hf he hr hm
  go_enter Tryd.func72, Tryd.ntmps72
  go_wp2_with fail
  refine (indexFunc_calls w F cap A m c xs HM.out HR.out f HN.out HF.out).mono ?_
  rintro e w' ⟨rfl, rfl⟩
  go_wp2_with fail
  go_ret
  exact ⟨by rw [any_findIdx]; rfl, rfl⟩

def GCheckPost (S : Nat → Addr) (b : Option (Int × Int)) (w : World) (e : Ending) (w' : World) : Prop :=
  Below w.heap.size w w' ∧ match b with
  | none => e = .returned .nilIface
  | some (i, n) => ∃ v, e = .returned v ∧ Chain S w' v (rootIx n) [(opGraph, i)]

theorem sumLen_append (a b : List (List Int)) : sumLen (a ++ b) = sumLen a + sumLen b := by
  induction a with
  | nil => simp [sumLen]
  | cons x a ih => simp [sumLen, ih]; omega
theorem sumLen_take (gs : List (List Int)) (j : Nat) : sumLen (gs.take j) ≤ sumLen gs := by
  have h := sumLen_append (gs.take j) (gs.drop j)
  rw [List.take_append_drop] at h
  omega
theorem sumLen_succ {gs : List (List Int)} {j : Nat} {xs : List Int} (h : gs[j]? = some xs) : sumLen (gs.take (j + 1)) = sumLen (gs.take j) + xs.length := by
  obtain ⟨hj, rfl⟩ := List.getElem?_eq_some_iff.1 h
  rw [List.take_succ_eq_append_getElem hj, sumLen_append]
  simp [sumLen]
def oddOf (n : Nat) (gs : List (List Int)) : Int := ((gs.findIdx? (badRow n)).map fun i : Nat => (i : Int)).getD (-1)
theorem oddOf_succ {n : Nat} {gs : List (List Int)} {j : Nat} {xs : List Int} (h : gs[j]? = some xs) :
    oddOf n (gs.take (j + 1)) = if oddOf n (gs.take j) < 0 ∧ badRow n xs = true then (j : Int) else oddOf n (gs.take j) := by
  obtain ⟨hj, rfl⟩ := List.getElem?_eq_some_iff.1 h
  unfold oddOf
  rw [List.take_succ_eq_append_getElem hj, List.findIdx?_append]
  cases hf : (gs.take j).findIdx? (badRow n) with
  | some i => simp; omega
  | none =>
    have hl : (gs.take j).length = j := by rw [List.length_take]; omega
    cases hb : badRow n gs[j] <;> simp [hb, hl]
theorem oddOf_neg {n : Nat} {gs : List (List Int)} (h : oddOf n gs < 0) : gs.findIdx? (badRow n) = none := by
  unfold oddOf at h
  cases hf : gs.findIdx? (badRow n) with
  | none => rfl
  | some i => rw [hf] at h; simp at h; omega
theorem oddOf_pos {n : Nat} {gs : List (List Int)} (h : ¬ oddOf n gs < 0) : ∃ i, gs.findIdx? (badRow n) = some i ∧ oddOf n gs = (i : Int) := by
  unfold oddOf at h ⊢
  cases hf : gs.findIdx? (badRow n) with
  | none => rw [hf] at h; simp at h
  | some i => exact ⟨i, rfl, rfl⟩
theorem oddOf_lt {n : Nat} {gs : List (List Int)} : -1 ≤ oddOf n gs ∧ oddOf n gs < gs.length := by
  unfold oddOf
  cases hf : gs.findIdx? (badRow n) with
  | none => simp; omega
  | some i => have := (List.findIdx?_eq_some_iff_getElem.1 hf).1; simp; omega

set_option maxRecDepth 100000 in
theorem gCheck_calls (B : Nat) (S : Nat → Addr) (w : World) (hE : Env B S w) (A : Option Addr) (m c : Nat) (gs : List (List Int)) (hm : m = gs.length) (hr : RII w .i64 A gs) (hl : ∀ xs ∈ gs, xs.length ≤ 17592186043904) :
    Calls Tryd.prog 30 #[.slice A m c] w (GCheckPost S (graphBad gs) w) := by
  obtain ⟨w1, hw1⟩ : ∃ w1, w1 = w.alloc (.cells #[.slice A m c] 51) := ⟨_, rfl⟩
  have HB : Hid (Below w.heap.size w w1) := by show Below _ _ _; rw [hw1]; exact below_new w _
  have HE := hid (hE.below' HB.out)
  have HR := hid (hr.below HB.out (Nat.le_refl _))
  have HM := hid hm
  have HL := hid hl
  have hc1 : w1.cell? ⟨w.heap.size, 0, none⟩ = some (.slice A m c) := by rw [hw1]; exact cell_one _ _ _
  have hm9 : m ≤ 9223372036854775807 := by rw [hm]; exact hr.1
  have HEN := hid Tryd.entersCheckC
  have HF : Hid (∀ x, Calls Tryd.prog 73 (#[.int .i64 x] ++ #[.pointer (some ⟨w.heap.size, 0, none⟩)]) w1 fun e w' => e = .returned (.bool (decide (x < 0 ∨ (m : Int) ≤ x))) ∧ w' = w1) := fun x => gCheckC_calls _ _ A m c x hc1
  have HW : Hid (w1 = w.alloc (.cells #[.slice A m c] 51)) := hw1
  rw [hw1] at hc1
  clear hw1 hE hr hl
  by_cases hbig : 8192 < m
  · have hb : graphBad gs = some (0, 4) := by unfold graphBad; rw [if_pos (by rw [← hm]; exact hbig)]
    rw [hb]
    clear hb hm
    go_enter Tryd.func30, Tryd.ntmps30
    go_wp2_with fail
    rw [← show w1 = _ from HW.out]
    refine (gWrong_calls B S _ HE.out 0 4 (by decide)).mono ?_
    rintro e w2 ⟨v, rfl, hch, hb⟩
    have HC := hid hch
    clear hch
    go_wp2_with fail
    go_ret
    exact ⟨below_then HB.out hb HB.out.size, _, rfl, HC.out⟩
  · clear hm
    go_enter Tryd.func30, Tryd.ntmps30
    go_wp2_with fail
    rw [← show w1 = _ from HW.out]
    go_loopw [13, 3, 4] (fun i a od wr => ∃ (j k : Nat) (o : Int), j ≤ m ∧ k ≤ 262144 ∧ i = .int .i64 j ∧ a = .int .i64 k ∧ od = .int .i64 o ∧ k = sumLen (gs.take j) ∧ o = oddOf m (gs.take j) ∧ wr = w1) (fun i _ _ _ => m - (intOf i).toNat)
    case atStart => exact ⟨0, 0, -1, Nat.zero_le _, Nat.zero_le _, rfl, rfl, rfl, rfl, rfl, rfl⟩
    case round =>
      obtain ⟨j, k, o, hj, hk, rfl, rfl, rfl, hks, ho, rfl⟩ := hrel
      have HK := hid hks
      have HO := hid ho
      have hor : -1 ≤ o ∧ o ≤ j := by
        have := oddOf_lt (n := m) (gs := gs.take j)
        rw [← ho, List.length_take] at this
        omega
      obtain ⟨ho1, ho2⟩ := hor
      clear hks ho
      by_cases hlt : j < m
      · obtain ⟨b, oo, xs, A', c', rfl, hx, hc, hcc, hri⟩ := HR.out.at_ (show j < gs.length by rw [← HM.out]; exact hlt)
        have hxl := HL.out xs (List.mem_of_getElem? hx)
        have HX := hid hx
        have HRI := hid hri
        obtain ⟨q, hq⟩ : ∃ q, q = xs.length := ⟨_, rfl⟩
        rw [← hq] at hc hcc hxl
        have HQ := hid hq
        have HS : Hid (sumLen (gs.take (j + 1)) = k + q) := by show _ = _; rw [sumLen_succ hx, HK.out, hq]
        have HT : Hid (oddOf m (gs.take (j + 1)) = if o < 0 ∧ badRow m xs = true then (j : Int) else o) := by show _ = _; rw [oddOf_succ hx, HO.out]
        clear hx hri hq
        by_cases hover : 262144 < k + q
        · have hb : graphBad gs = some (1, 4) := by
            unfold graphBad
            rw [if_neg (by rw [← HM.out]; exact hbig), if_pos (by have := sumLen_take gs (j + 1); have := HS.out; omega)]
          have HBAD := hid hb
          clear hb
          go_wp2_with fail
          refine (gWrong_calls B S _ HE.out 1 4 (by decide)).mono ?_
          rintro e w2 ⟨v, rfl, hch, hb⟩
          have HC := hid hch
          clear hch
          go_wp2_with fail
          go_ret
          refine ⟨below_then HB.out hb HB.out.size, ?_⟩
          rw [HBAD.out]
          exact ⟨_, rfl, HC.out⟩
        · by_cases hon : o < 0
          · go_wp2_with fail
            refine (containsFunc_calls _ 73 #[.pointer (some ⟨w.heap.size, 0, none⟩)] A' q c' xs HQ.out HRI.out (fun t => decide (t < 0 ∨ (m : Int) ≤ t)) HEN.out HF.out).mono ?_
            rintro e w2 ⟨rfl, rfl⟩
            rw [show (xs.any fun t => decide (t < 0 ∨ (m : Int) ≤ t)) = badRow m xs from rfl]
            cases hbr : badRow m xs with
            | true =>
              have HBR := hid hbr
              clear hbr
              go_wp2_with fail
              go_roundw
              case measure => simp [intOf]; omega
              case rel => exact ⟨j + 1, k + q, j, by omega, by omega, by go_num, by go_num, rfl, HS.out.symm, by rw [HT.out, if_pos ⟨hon, HBR.out⟩], trivial⟩
            | false =>
              have HBR := hid hbr
              clear hbr
              go_wp2_with fail
              go_roundw
              case measure => simp [intOf]; omega
              case rel => exact ⟨j + 1, k + q, o, by omega, by omega, by go_num, by go_num, rfl, HS.out.symm, by rw [HT.out, if_neg (fun hh => by rw [HBR.out] at hh; cases hh.2)], trivial⟩
          · go_wp2_with fail
            go_roundw
            case measure => simp [intOf]; omega
            case rel => exact ⟨j + 1, k + q, o, by omega, by omega, by go_num, by go_num, rfl, HS.out.symm, by rw [HT.out, if_neg (fun hh => hon hh.1)], trivial⟩
      · obtain rfl : j = m := by omega
        have hsl : k = sumLen gs := by rw [HK.out, List.take_of_length_le (by rw [← HM.out]; omega)]
        have hod : o = oddOf j gs := by rw [HO.out, List.take_of_length_le (by rw [← HM.out]; omega)]
        have hgb : graphBad gs = (gs.findIdx? (badRow j)).map fun i : Nat => ((i : Int), (1 : Int)) := by
          unfold graphBad
          rw [if_neg (by rw [← HM.out]; exact hbig), if_neg (by omega), ← HM.out]
        have HGB := hid hgb
        have HOD := hid hod
        clear hsl hgb hod
        by_cases hon : o < 0
        · have HNF := hid (oddOf_neg (n := j) (gs := gs) (by rw [← HOD.out]; exact hon))
          go_wp2_with fail
          go_ret
          refine ⟨HB.out, ?_⟩
          rw [HGB.out, HNF.out]
          rfl
        · obtain ⟨i, hi1, hi2⟩ := oddOf_pos (n := j) (gs := gs) (by rw [← HOD.out]; exact hon)
          have HI1 := hid hi1
          have HI2 := hid (HOD.out.trans hi2)
          clear hi1 hi2
          go_wp2_with fail
          refine (gWrong_calls B S _ HE.out _ 1 (by decide)).mono ?_
          rintro e w2 ⟨v, rfl, hch, hb⟩
          have HC := hid hch
          clear hch
          go_wp2_with fail
          go_ret
          refine ⟨below_then HB.out hb HB.out.size, ?_⟩
          rw [HGB.out, HI1.out]
          refine ⟨_, rfl, ?_⟩
          rw [← show o = (i : Int) from HI2.out]
          exact HC.out
end Go.Proofs.YtapebbejdgeijaaDoor
