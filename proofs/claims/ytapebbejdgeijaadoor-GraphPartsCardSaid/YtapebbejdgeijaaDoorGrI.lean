/- edenref12.Check. -/
import Derived.Test.YtapebbejdgeijaaDoorGrA
import Derived.Test.YtapebbejdgeijaaDoorErrE
namespace Go.Proofs.YtapebbejdgeijaaDoor
open Go.RowKit Go.Extern.Stop Go.Stop Go.Extern Go.Deep Tar

def errN : Option (Int × Int) → Int | none => 0 | some (_, n) => n
def errL : Option (Int × Int) → List (ByteArray × Int) | none => [] | some (i, _) => [(opGraph, i)]
def RCheckPost (b : Option (Int × Int)) (w : World) (e : Ending) (w' : World) : Prop :=
  ∃ Aa la ca Ab lb cb, e = .returned (.agg #[.int .i64 (errN b), .slice Aa la ca, .slice Ab lb cb]) ∧ ErrVal w' 0 (.agg #[.int .i64 (errN b), .slice Aa la ca, .slice Ab lb cb]) (errN b) (errL b) ∧ Below w.heap.size w w'

theorem badRow_at {n : Nat} {l : List Int} {k : Nat} {x : Int} (hx : l[k]? = some x) (h : x < 0 ∨ (n : Int) ≤ x) : badRow n l = true := by
  unfold badRow
  rw [List.any_eq_true]
  exact ⟨x, List.mem_of_getElem? hx, decide_eq_true h⟩
theorem badRow_none {n : Nat} {l : List Int} (h : ∀ (k : Nat) (x : Int), l[k]? = some x → ¬ (x < 0 ∨ (n : Int) ≤ x)) : badRow n l = false := by
  unfold badRow
  rw [List.any_eq_false]
  intro x hx
  obtain ⟨k, hk⟩ := List.getElem?_of_mem hx
  simp only [decide_eq_true_eq]
  exact h k x hk

set_option maxRecDepth 100000 in
set_option maxHeartbeats 1600000 in
theorem r12Check_calls (w : World) (A : Option Addr) (m c : Nat) (gs : List (List Int)) (hm : m = gs.length) (hr : RII w .i64 A gs) (hl : ∀ xs ∈ gs, xs.length ≤ 17592186043904) :
    Calls Tryd.prog 31 #[.slice A m c] w (RCheckPost (graphBad gs) w) := by
  have HCELL := hid (ErrCell.new w)
  have HBW := hid (below_new w (.cells #[.int .i64 0, .slice none 0 0, .slice none 0 0] 39))
  have HR := hid (hr.below HBW.out (Nat.le_refl _))
  have HM := hid hm
  have HL := hid hl
  have hm9 : m ≤ 9223372036854775807 := by rw [hm]; exact hr.1
  clear hr hm hl
  -- the end: an error of this place and number
  have HEND : Hid (∀ (i n : Int) (w9 : World) (Aa : Option Addr) (ca : Nat) (Ab : Option Addr) (cb : Nat), graphBad gs = some (i, n) → ErrVal w9 (w.alloc (.cells #[.int .i64 0, .slice none 0 0, .slice none 0 0] 39)).heap.size (.agg #[.int .i64 n, .slice Aa 1 ca, .slice Ab 1 cb]) n [(opGraph, i)] → Below (w.alloc (.cells #[.int .i64 0, .slice none 0 0, .slice none 0 0] 39)).heap.size (w.alloc (.cells #[.int .i64 0, .slice none 0 0, .slice none 0 0] 39)) w9 →
      RCheckPost (graphBad gs) w (.returned (.agg #[.int .i64 n, .slice Aa 1 ca, .slice Ab 1 cb])) (setErr w9 w.heap.size (.int .i64 n) (.slice Aa 1 ca) (.slice Ab 1 cb))) := by
    intro i n w9 Aa ca Ab cb hb herr hbel
    rw [hb]
    exact ⟨_, _, _, _, _, _, rfl, err_end (HCELL.out.below hbel) herr, setErr_below (below_then HBW.out hbel HBW.out.size) (Nat.le_refl _)⟩
  by_cases hbig : 8192 < m
  · have HBAD : Hid (graphBad gs = some (0, 4)) := by show _ = _; unfold graphBad; rw [if_pos (by rw [← HM.out]; exact hbig)]
    go_enter Tryd.func31, Tryd.ntmps31
    go_wp2_with fail
    refine (rawNew_form _ _ _ _).mono ?_
    rintro e w9 ⟨Aa, ca, Ab, cb, rfl, herr9, hb9⟩
    have HC9 : Hid (ErrCell w9 w.heap.size (.int .i64 0) (.slice none 0 0) (.slice none 0 0)) := HCELL.out.below hb9
    obtain ⟨c0, f0, c1, f1, c2, f2, r0, r1, r2⟩ := HC9.out.facts (.int .i64 4) (.slice Aa 1 ca) (.slice Ab 1 cb)
    have HE9 := hid (HEND.out 0 4 w9 Aa ca Ab cb HBAD.out herr9 hb9)
    clear herr9 hb9
    go_wp2_with fail
    refine bodyPost_ret (v := .agg #[.int .i64 4, .slice Aa 1 ca, .slice Ab 1 cb]) (by simp [results, Tryd.results31, go_sem, r0, r1, r2]) rfl ?_
    exact HE9.out
  · go_enter Tryd.func31, Tryd.ntmps31
    go_wp2_with fail
    generalize w.alloc (.cells #[.int .i64 0, .slice none 0 0, .slice none 0 0] 39) = w1 at *
    go_loopw [4, 3] (fun i a wr => ∃ (j k : Nat), j ≤ m ∧ k ≤ 262144 ∧ i = .int .i64 j ∧ a = .int .i64 k ∧ k = sumLen (gs.take j) ∧ wr = w1) (fun i _ _ => m - (intOf i).toNat)
    case atStart => exact ⟨0, 0, Nat.zero_le _, Nat.zero_le _, rfl, rfl, rfl, rfl⟩
    case round =>
      obtain ⟨j, k, hj, hk, rfl, rfl, hks, hwr⟩ := hrel
      obtain rfl : w1 = wr := hwr.symm
      have HK := hid hks
      clear hks hwr
      by_cases hlt : j < m
      · obtain ⟨b, oo, xs, A', c', rfl, hx, hc, hcc, hri⟩ := HR.out.at_ (show j < gs.length by rw [← HM.out]; exact hlt)
        have hxl := HL.out xs (List.mem_of_getElem? hx)
        obtain ⟨q, hq⟩ : ∃ q, q = xs.length := ⟨_, rfl⟩
        rw [← hq] at hc hcc hxl
        have HS : Hid (sumLen (gs.take (j + 1)) = k + q) := by show _ = _; rw [sumLen_succ hx, HK.out, hq]
        clear hx hri hq
        by_cases hover : 262144 < k + q
        · have HBAD : Hid (graphBad gs = some (1, 4)) := by
            show _ = _
            unfold graphBad
            rw [if_neg (by rw [← HM.out]; exact hbig), if_pos (by have := sumLen_take gs (j + 1); have := HS.out; omega)]
          go_wp2_with fail
          refine (rawNew_form _ _ _ _).mono ?_
          rintro e w9 ⟨Aa, ca, Ab, cb, rfl, herr9, hb9⟩
          have HC9 : Hid (ErrCell w9 w.heap.size (.int .i64 0) (.slice none 0 0) (.slice none 0 0)) := HCELL.out.below hb9
          obtain ⟨c0, f0, c1, f1, c2, f2, r0, r1, r2⟩ := HC9.out.facts (.int .i64 4) (.slice Aa 1 ca) (.slice Ab 1 cb)
          have HE9 := hid (HEND.out 1 4 w9 Aa ca Ab cb HBAD.out herr9 hb9)
          clear herr9 hb9
          go_wp2_with fail
          refine bodyPost_ret (v := .agg #[.int .i64 4, .slice Aa 1 ca, .slice Ab 1 cb]) (by simp [results, Tryd.results31, go_sem, r0, r1, r2]) rfl ?_
          exact HE9.out
        · go_wp2_with fail
          go_roundw
          case measure => simp [intOf]; omega
          case rel => exact ⟨j + 1, k + q, by omega, by omega, by go_num, by go_num, HS.out.symm, trivial⟩
      · obtain rfl : m = j := by omega
        have hsl : k = sumLen gs := by rw [HK.out, List.take_of_length_le (by rw [← HM.out]; omega)]
        have HGB : Hid (graphBad gs = (gs.findIdx? (badRow m)).map fun i : Nat => ((i : Int), (1 : Int))) := by
          show _ = _
          unfold graphBad
          rw [if_neg (by rw [← HM.out]; exact hbig), if_neg (by omega), ← HM.out]
        clear hsl HK
        go_wp2_with fail
        go_loopw [5] (fun i wr => ∃ j : Nat, j ≤ m ∧ i = .int .i64 j ∧ (∀ (q : Nat) (xs : List Int), q < j → gs[q]? = some xs → badRow m xs = false) ∧ wr = w1) (fun i _ => m - (intOf i).toNat)
        case atStart => exact ⟨0, Nat.zero_le _, rfl, fun q xs h => absurd h (Nat.not_lt_zero _), rfl⟩
        case round =>
          obtain ⟨j, hj, rfl, hok, hwr⟩ := hrel
          obtain rfl : w1 = wr := hwr.symm
          have HOK := hid hok
          clear hok hwr
          by_cases hlt : j < m
          · obtain ⟨b, oo, xs, A', c', rfl, hx, hc, hcc, hri⟩ := HR.out.at_ (show j < gs.length by rw [← HM.out]; exact hlt)
            obtain ⟨q, hq⟩ : ∃ q, q = xs.length := ⟨_, rfl⟩
            have hxl := HL.out xs (List.mem_of_getElem? hx)
            rw [← hq] at hc hcc hxl
            have HX := hid hx
            have HQ := hid hq
            have HRI := hid hri
            clear hx hri hq
            go_wp2_with fail
            go_loopw [6] (fun i wr => ∃ k : Nat, k ≤ q ∧ i = .int .i64 k ∧ (∀ (p : Nat) (x : Int), p < k → xs[p]? = some x → ¬ (x < 0 ∨ (m : Int) ≤ x)) ∧ wr = w1) (fun i _ => q - (intOf i).toNat)
            case atStart => exact ⟨0, Nat.zero_le _, rfl, fun p x h => absurd h (Nat.not_lt_zero _), rfl⟩
            case round =>
              obtain ⟨k, hk, rfl, hok, hwr⟩ := hrel
              obtain rfl : w1 = wr := hwr.symm
              have HOK2 := hid hok
              clear hok hwr
              by_cases hkq : k < q
              · obtain ⟨b2, o2, x, rfl, hxk, hcx⟩ := HRI.out.at_ (show k < xs.length by rw [← HQ.out]; exact hkq)
                have HXK := hid hxk
                clear hxk
                have HFND : Hid (x < 0 ∨ (m : Int) ≤ x → graphBad gs = some ((j : Int), 1)) := fun hh => by
                  rw [HGB.out]
                  have hb := badRow_at HXK.out hh
                  obtain ⟨hj1, hj2⟩ := List.getElem?_eq_some_iff.1 HX.out
                  have : gs.findIdx? (badRow m) = some j := by
                    rw [List.findIdx?_eq_some_iff_getElem]
                    exact ⟨hj1, by rw [hj2]; exact hb, fun p hp => by rw [HOK.out p _ hp (List.getElem?_eq_getElem (by omega))]; simp⟩
                  rw [this]
                  rfl
                by_cases hx0 : x < 0
                · have HBAD := hid (HFND.out (.inl hx0))
                  go_wp2_with fail
                  refine (rawNew_form _ _ _ _).mono ?_
                  rintro e w9 ⟨Aa, ca, Ab, cb, rfl, herr9, hb9⟩
                  have HC9 : Hid (ErrCell w9 w.heap.size (.int .i64 0) (.slice none 0 0) (.slice none 0 0)) := HCELL.out.below hb9
                  obtain ⟨c0, f0, c1, f1, c2, f2, r0, r1, r2⟩ := HC9.out.facts (.int .i64 1) (.slice Aa 1 ca) (.slice Ab 1 cb)
                  have HE9 := hid (HEND.out j 1 w9 Aa ca Ab cb HBAD.out herr9 hb9)
                  clear herr9 hb9
                  go_wp2_with fail
                  refine bodyPost_ret (v := .agg #[.int .i64 1, .slice Aa 1 ca, .slice Ab 1 cb]) (by simp [results, Tryd.results31, go_sem, r0, r1, r2]) rfl ?_
                  exact HE9.out
                · by_cases hxm : (m : Int) ≤ x
                  · have HBAD := hid (HFND.out (.inr hxm))
                    go_wp2_with fail
                    refine (rawNew_form _ _ _ _).mono ?_
                    rintro e w9 ⟨Aa, ca, Ab, cb, rfl, herr9, hb9⟩
                    have HC9 : Hid (ErrCell w9 w.heap.size (.int .i64 0) (.slice none 0 0) (.slice none 0 0)) := HCELL.out.below hb9
                    obtain ⟨c0, f0, c1, f1, c2, f2, r0, r1, r2⟩ := HC9.out.facts (.int .i64 1) (.slice Aa 1 ca) (.slice Ab 1 cb)
                    have HE9 := hid (HEND.out j 1 w9 Aa ca Ab cb HBAD.out herr9 hb9)
                    clear herr9 hb9
                    go_wp2_with fail
                    refine bodyPost_ret (v := .agg #[.int .i64 1, .slice Aa 1 ca, .slice Ab 1 cb]) (by simp [results, Tryd.results31, go_sem, r0, r1, r2]) rfl ?_
                    exact HE9.out
                  · go_wp2_with fail
                    go_roundw
                    case measure => simp [intOf]; omega
                    case rel =>
                      refine ⟨k + 1, by omega, by go_num, fun p y hp hy => ?_, trivial⟩
                      by_cases e : p = k
                      · subst e
                        obtain rfl := Option.some.inj (HXK.out.symm.trans hy)
                        omega
                      · exact HOK2.out p y (by omega) hy
              · obtain rfl : q = k := by omega
                go_wp2_with fail
                go_roundw
                case measure => simp [intOf]; omega
                case rel =>
                  refine ⟨j + 1, by omega, by go_num, fun p ys hp hy => ?_, trivial⟩
                  by_cases e : p = j
                  · subst e
                    obtain rfl := Option.some.inj (HX.out.symm.trans hy)
                    exact badRow_none fun p x hx => HOK2.out p x (by rw [HQ.out]; exact (List.getElem?_eq_some_iff.1 hx).1) hx
                  · exact HOK.out p ys (by omega) hy
          · obtain rfl : m = j := by omega
            have HNB : Hid (graphBad gs = none) := by
              show _ = _
              rw [HGB.out, List.findIdx?_eq_none_iff.2 fun xs hxs => ?_]
              · rfl
              · obtain ⟨p, hp⟩ := List.getElem?_of_mem hxs
                exact HOK.out p xs (by rw [HM.out]; exact (List.getElem?_eq_some_iff.1 hp).1) hp
            obtain ⟨c0, f0, c1, f1, c2, f2, r0, r1, r2⟩ := HCELL.out.facts (.int .i64 0) (.slice none 0 0) (.slice none 0 0)
            go_wp2_with fail
            refine bodyPost_ret (v := .agg #[.int .i64 0, .slice none 0 0, .slice none 0 0]) (by simp [results, Tryd.results31, go_sem, r0, r1, r2]) rfl ?_
            rw [HNB.out]
            exact ⟨_, _, _, _, _, _, rfl, ErrVal.zero _ _, setErr_below HBW.out (Nat.le_refl _)⟩
end Go.Proofs.YtapebbejdgeijaaDoor
