/- graph.Live. -/
import Derived.Test.YtapebbejdgeijaaDoorGrL
import Derived.Test.YtapebbejdgeijaaDoorGrF
namespace Go.Proofs.YtapebbejdgeijaaDoor
open Go.RowKit Go.Extern.Stop Go.Stop Go.Extern Go.Deep Tar

set_option maxRecDepth 100000 in
theorem gParts_bad (B : Nat) (S : Nat → Addr) (w : World) (hE : Env B S w) (A : Option Addr) (n c : Nat) (gs : List (List Int)) (hr : RII w .i64 A gs) (hn : n = gs.length) (i x : Int) (hb : graphBad gs = some (i, x)) (hl : ∀ xs ∈ gs, xs.length ≤ 17592186043904) :
    Calls Tryd.prog 34 #[.slice A n c] w (GBadPost S i x w) := by
  have HR := hid hr
  have HN := hid hn
  have HBAD := hid hb
  have HL := hid hl
  have HE := hid hE
  clear hr hn hb hl hE
  go_enter Tryd.func34, Tryd.ntmps34
  go_wp2_with fail
  refine (gCheck_calls B S w HE.out A n c gs HN.out HR.out HL.out).mono ?_
  rintro e w1 ⟨hb1, h⟩
  rw [show graphBad gs = some (i, x) from HBAD.out] at h
  obtain ⟨v, rfl, hch⟩ := h
  obtain ⟨t, a, rfl⟩ := hch.form
  have HCH := hid hch
  have HB1 := hid hb1
  clear hch hb1
  go_wp2_with fail
  go_ret2
  exact ⟨HB1.out, _, rfl, HCH.out⟩

set_option maxRecDepth 100000 in
theorem gLive_bad (B : Nat) (S : Nat → Addr) (w : World) (hE : Env B S w) (A : Option Addr) (n c : Nat) (gs : List (List Int)) (hr : RII w .i64 A gs) (hn : n = gs.length) (i x : Int) (hb : graphBad gs = some (i, x)) (hl : ∀ xs ∈ gs, xs.length ≤ 17592186043904) :
    Calls Tryd.prog 28 #[.slice A n c] w (GBadPost S i x w) := by
  have HR := hid hr
  have HN := hid hn
  have HBAD := hid hb
  have HL := hid hl
  have HE := hid hE
  clear hr hn hb hl hE
  go_enter Tryd.func28, Tryd.ntmps28
  go_wp2_with fail
  refine (gParts_bad B S w HE.out A n c gs HR.out HN.out i x HBAD.out HL.out).mono ?_
  rintro e w1 ⟨hb1, v, rfl, hch⟩
  obtain ⟨t, a, rfl⟩ := hch.form
  have HCH := hid hch
  have HB1 := hid hb1
  clear hch hb1
  go_wp2_with fail
  go_ret2
  exact ⟨HB1.out, _, rfl, HCH.out⟩

def GLivePost (w : World) (g : Nat → List Nat) (n : Nat) (e : Ending) (w' : World) : Prop :=
  ∃ v', e = .returned (.tuple #[v', .nilIface]) ∧ w'.ownsRow w.heap.size 3 1 v' (liveL g n).length ((liveL g n).map iV) ∧ Below w.heap.size w w'
def lpB (g : Nat → List Nat) (xs : List Nat) (k : Nat) : Bool := (g k).any fun t => xs.getD t 0 == xs.getD k 0
theorem lpB_iff {g : Nat → List Nat} {n : Nat} {xs : List Nat} (h : IsParts g n xs) (hg : ∀ v, ∀ t ∈ g v, t < n) (ho : ∀ v, n ≤ v → g v = []) (k : Nat) : lpB g xs k = true ↔ OnLoop g k := by
  rcases Nat.lt_or_ge k n with hk | hk
  · rw [← onLoop_iff h hg hk]
    unfold lpB
    rw [List.any_eq_true]
    constructor
    · rintro ⟨t, h1, h2⟩; exact ⟨t, h1, by simpa using h2⟩
    · rintro ⟨t, h1, h2⟩; exact ⟨t, h1, by simpa using h2⟩
  · unfold lpB
    rw [ho k hk]
    constructor
    · intro h; cases h
    · rintro ⟨t, h1, _⟩
      rw [ho k hk] at h1; cases h1
theorem live_two {g : Nat → List Nat} {n : Nat} {xs : List Nat} (h : IsParts g n xs) (hg : ∀ v, ∀ t ∈ g v, t < n) (ho : ∀ v, n ≤ v → g v = []) {o1 o2 : Nat → Bool}
    (h1 : ∀ t, t < n → (o1 t = true ↔ ∃ u, lpB g xs u = true ∧ Tar.Reach (Arr g) u t)) (h2 : ∀ t, t < n → (o2 t = true ↔ ∃ u, lpB g xs u = true ∧ Tar.Reach (Arr (turn g n)) u t)) : (List.range n).filter (fun t => o1 t && o2 t) = liveL g n := by
  apply liveL_eq
  intro v hv
  rw [Bool.and_eq_true, h1 v hv, h2 v hv]
  constructor
  · rintro ⟨⟨u, a1, a2⟩, u', b1, b2⟩
    exact ⟨⟨u, (lpB_iff h hg ho u).1 a1, a2⟩, u', (lpB_iff h hg ho u').1 b1, (turn_reach ho).1 b2⟩
  · rintro ⟨⟨u, a1, a2⟩, u', b1, b2⟩
    exact ⟨⟨u, (lpB_iff h hg ho u).2 a1, a2⟩, u', (lpB_iff h hg ho u').2 b1, (turn_reach ho).2 b2⟩
theorem any_take {l : List Nat} {i t : Nat} (p : Nat → Bool) (h : l[i]? = some t) : (l.take (i + 1)).any p = ((l.take i).any p || p t) := by
  rw [List.take_add_one, h, List.any_append]
  simp

set_option maxRecDepth 100000 in
set_option maxHeartbeats 1600000 in
theorem gLive_ok (B : Nat) (S : Nat → Addr) (w : World) (hE : Env B S w) (A : Option Addr) (n c : Nat) (gs : List (List Int)) (hr : RII w .i64 A gs) (hn : n = gs.length) (hb : graphBad gs = none) (hl : ∀ xs ∈ gs, xs.length ≤ 17592186043904) :
    Calls Tryd.prog 28 #[.slice A n c] w (GLivePost w (natG gs) n) := by
  have hg : GrAt w A gs := ⟨hr, GOk.of_bad hb⟩
  have HG := hid hg
  have hn8 : n ≤ 8192 := by rw [hn]; exact (graphOk hb).1
  have hsum : sumG (natG gs) n ≤ 262144 := by rw [hn, sumG_take gs.length (Nat.le_refl _), List.take_length]; exact (graphOk hb).2.1
  have HGN : Hid (∀ x, ∀ t ∈ natG gs x, t < n) := fun x t ht => by rw [hn]; exact natG_lt hg.2 x t ht
  have HGO : Hid (∀ v, n ≤ v → natG gs v = []) := fun v hv => natG_out v (by rw [← hn]; exact hv)
  have HN := hid hn
  have HBAD := hid hb
  have HL := hid hl
  have HR := hid hr
  have HE := hid hE
  have HSUM := hid hsum
  clear hg hr hn hb hl hE hsum
  go_enter Tryd.func28, Tryd.ntmps28
  go_wp2_with fail
  refine (gParts_ok B S w HE.out A n c gs HR.out HN.out HBAD.out HL.out).mono ?_
  rintro e w1 ⟨gx, xs, rfl, hrx, hip, hb1⟩
  have HIP := hid hip
  have hmkb := run_make_row' (P := Tryd.prog) 117 4 (.bool false) 1 Tryd.underlying117 Tryd.infoBool rfl .i64 .i64 n (by omega) (by omega)
  have HL2 : Hid ((w1.alloc (.cells (madeCells #[.bool false] n) 4)).rowIs w1.heap.size 4 n (fun k => .bool (decide (k < 0) && lpB (natG gs) xs k))) := (rowIs_made w1 (.bool false) 4 n).congr fun k _ => by simp
  have HX2 : Hid ((w1.alloc (.cells (madeCells #[.bool false] n) 4)).rowIs gx 3 n (fun k => iV (xs.getD k 0))) := rowIs_alloc hrx _
  have HB2 : Hid (Below w.heap.size w (w1.alloc (.cells (madeCells #[.bool false] n) 4))) := below_alloc hb1 hb1.size _
  have hgx : gx ≠ w1.heap.size := by have := hrx.lt; omega
  have hgl : w.heap.size ≤ w1.heap.size := hb1.size
  clear hrx hip hb1
  go_wp2_with fail
  generalize w1.alloc (.cells (madeCells #[.bool false] n) 4) = w2 at *
  generalize w1.heap.size = gl at *
  clear hmkb
  go_loopw [28] (fun iv wr => ∃ j : Nat, j ≤ n ∧ iv = .int .i64 j ∧ wr.rowIs gl 4 n (fun k => .bool (decide (k < j) && lpB (natG gs) xs k)) ∧ wr.rowIs gx 3 n (fun k => iV (xs.getD k 0)) ∧ Below w.heap.size w wr) (fun iv _ => n - (intOf iv).toNat)
  case atStart => exact ⟨0, Nat.zero_le _, rfl, HL2.out, HX2.out, HB2.out⟩
  case round =>
    clear HL2 HX2 HB2
    obtain ⟨j, hj, rfl, hl, hx, hb⟩ := hrel
    have HLR := hid hl
    have HX := hid hx
    have HB := hid hb
    clear hl hx hb
    by_cases hlt : j < n
    · obtain ⟨ba, oa, A', c', rfl, hrow, hcap, hri⟩ := HG.out.row (show j < gs.length by rw [← HN.out]; exact hlt)
      have hba : ba < w.heap.size := World.block_lt_of_cell? w _ hrow
      replace hrow := (HB.out.cell (show ba < w.heap.size from hba)).trans hrow
      have hL := HG.out.rowLen j
      obtain ⟨L, hLd⟩ : ∃ L, L = (natG gs j).length := ⟨_, rfl⟩
      rw [← hLd] at hrow hcap hL
      have HLD := hid hLd
      have HRI := hid hri
      obtain ⟨a, ha⟩ : ∃ a, a = xs.getD j 0 := ⟨_, rfl⟩
      have HA := hid ha
      clear hri hLd ha
      go_wp2_with fail
      go_loopw [35] (fun iv wr => ∃ i : Nat, i ≤ L ∧ iv = .int .i64 i ∧ wr.rowIs gl 4 n (fun k => .bool (if k = j then ((natG gs j).take i).any (fun t => xs.getD t 0 == xs.getD j 0) else decide (k < j) && lpB (natG gs) xs k)) ∧ wr.rowIs gx 3 n (fun k => iV (xs.getD k 0)) ∧ Below w.heap.size w wr) (fun iv _ => L - (intOf iv).toNat)
      case atStart => exact ⟨0, Nat.zero_le _, rfl, HLR.out.congr fun k _ => by
        by_cases e : k = j
        · subst e; simp
        · rw [if_neg e], HX.out, HB.out⟩
      case round =>
        clear HLR HX HB hrow
        obtain ⟨i, hi, rfl, hl, hx, hb⟩ := hrel
        have HLR := hid hl
        have HX := hid hx
        have HB := hid hb
        clear hl hx hb
        by_cases hiL : i < L
        · obtain ⟨b2, o2, t', rfl, ht', hct⟩ := HRI.out.at_ (show i < (ints (natG gs j)).length by rw [List.length_map, ← HLD.out]; exact hiL)
          obtain ⟨t, ht⟩ : ∃ t, (natG gs j)[i]? = some t := ⟨_, List.getElem?_eq_getElem (by rw [← HLD.out]; exact hiL)⟩
          obtain rfl : (t : Int) = t' := by rw [List.getElem?_map, ht] at ht'; exact Option.some.inj ht'
          have htn : t < n := HGN.out j t (mem_at ht)
          have HT := hid ht
          have hb2 : b2 < w.heap.size := World.block_lt_of_cell? w _ hct
          replace hct := (HB.out.cell (show b2 < w.heap.size from hb2)).trans hct
          obtain ⟨q, hq⟩ : ∃ q, q = xs.getD t 0 := ⟨_, rfl⟩
          have c1 := HX.out.cell htn
          have c2 := HX.out.cell hlt
          rw [← hq] at c1
          rw [← HA.out] at c2
          have HQ := hid hq
          have c3 := HLR.out.cell hlt
          have c4 := HLR.out.frozen j
          clear ht' ht hq
          by_cases he : q = a
          · have hbe : ((q : Int) == (a : Int)) = true := by simp; omega
            have HEQ := hid he
            clear he
            go_wp2_with fail
            go_region
            go_wp2_with fail
            go_roundw
            case measure => simp [intOf]; omega
            case rel =>
              refine ⟨i + 1, by omega, by go_num, rowIs_upd HLR.out j _ fun k _ => ?_, rowIs_drew (rowIs_other HX.out hgx), Below.drew (HB.out.setCell hgl _)⟩
              by_cases e : k = j
              · subst e
                simp only [if_true]
                rw [any_take _ HT.out, ← HQ.out, ← HA.out, HEQ.out]
                simp
              · simp only [if_neg e]
          · have hbe : ((q : Int) == (a : Int)) = false := by simp; omega
            have HEQ := hid he
            clear he
            go_wp2_with fail
            go_region
            go_wp2_with fail
            go_roundw
            case measure => simp [intOf]; omega
            case rel =>
              refine ⟨i + 1, by omega, by go_num, rowIs_drew (HLR.out.congr fun k _ => ?_), rowIs_drew HX.out, Below.drew HB.out⟩
              by_cases e : k = j
              · subst e
                simp only [if_true]
                rw [any_take _ HT.out, ← HQ.out, ← HA.out]
                have := HEQ.out
                simp [this]
              · simp only [if_neg e]
        · obtain rfl : L = i := by omega
          go_wp2_with fail
          go_roundw
          case measure => simp [intOf]; omega
          case rel =>
            refine ⟨j + 1, by omega, by go_num, HLR.out.congr fun k _ => ?_, HX.out, HB.out⟩
            by_cases e : k = j
            · subst e
              rw [if_pos rfl, HLD.out, List.take_length, decide_eq_true (by omega)]
              simp only [Bool.true_and]
              rfl
            · rw [if_neg e]
              congr 2
              by_cases e2 : k < j
              · rw [decide_eq_true e2, decide_eq_true (by omega)]
              · rw [decide_eq_false e2, decide_eq_false (by omega)]
    · obtain rfl : n = j := by omega
      have HR3 : Hid (wr.rowIs gl 4 n (fun k => .bool (lpB (natG gs) xs k))) := HLR.out.congr fun k hk => by rw [decide_eq_true hk]; rfl
      have HLN : Hid (∀ u, lpB (natG gs) xs u = true → u < n) := fun u hu => by
        rcases Nat.lt_or_ge u n with h | h
        · exact h
        · unfold lpB at hu
          rw [HGO.out u h] at hu; cases hu
      clear HLR HX
      have HG3 := hid (HG.out.below HB.out)
      go_wp2_with fail
      refine (gReach_calls wr A n c gl gs HG3.out HN.out (lpB (natG gs) xs) HR3.out HLN.out).mono ?_
      rintro e w3 ⟨v1, o1, rfl, hO1, hb3, hr1⟩
      have HO1 := hid hO1
      have HR1 := hid hr1
      have HG4 := hid (HG3.out.below hb3)
      have HR4 := hid (rowIs_below HR3.out hb3 HR3.out.lt)
      have HB3 := hid hb3
      clear hO1 hr1 hb3
      go_wp2_with fail
      refine (gBack_calls w3 A n c gs HG4.out HN.out HSUM.out).mono ?_
      rintro e w4 ⟨rv, rfl, hrows, hb4⟩
      have HGB := hid (hrows.turned (by omega) HSUM.out)
      have HB4 := hid hb4
      have HR5 := hid (rowIs_below HR4.out hb4 HR4.out.lt)
      clear hrows hb4
      go_wp2_with fail
      refine (gReach_calls w4 (some ⟨w3.heap.size, 0, none⟩) n n gl (listG n (turn (natG gs) n)) HGB.out (listG_length _ _).symm (lpB (natG gs) xs) HR5.out HLN.out).mono ?_
      rintro e w5 ⟨v2, o2, rfl, hO2, hb5, hr2⟩
      rw [natG_turn HGN.out] at hr2
      have HLIVE := hid (live_two HIP.out HGN.out HGO.out HR1.out hr2)
      have HO2 := hid hO2
      have HB45 := hid (below_then HB4.out hb5 HB4.out.size)
      have HO1' := hid (own_below HO1.out HB45.out (Nat.le_refl _))
      have HB35 := hid (below_then HB3.out HB45.out HB3.out.size)
      have HB5 := hid (below_then HB.out HB35.out HB.out.size)
      obtain ⟨A1, c1, rfl, hc1, hm1⟩ := own_slice HO1.out
      obtain ⟨A2, c2, rfl, hc2, hm2⟩ := own_slice hO2
      have hs5 : w.heap.size ≤ w5.heap.size := HB5.out.size
      have HP1 : Hid (w5.ownsRow w.heap.size 4 1 (.slice A1 n c1) n (tabB n o1)) := own_base HO1'.out HB.out.size
      have HP2 : Hid (w5.ownsRow w.heap.size 4 1 (.slice A2 n c2) n (tabB n o2)) := own_base HO2.out (Nat.le_trans HB.out.size (Nat.le_trans HB3.out.size HB4.out.size))
      clear hr2 hO2 hb5 HR1 HO1 HB4 HB45 HB3 HB35 HR5 HR4 HR3 HG3 HG4 HGB HB HO1' HO2
      go_wp2_with fail
      go_loopw [62, 13] (fun iv q wr => ∃ j : Nat, j ≤ n ∧ iv = .int .i64 j ∧ wr.ownsRow w.heap.size 3 1 q ((List.range j).filter fun t => o1 t && o2 t).length (((List.range j).filter fun t => o1 t && o2 t).map iV) ∧ wr.ownsRow w.heap.size 4 1 (.slice A1 n c1) n (tabB n o1) ∧ wr.ownsRow w.heap.size 4 1 (.slice A2 n c2) n (tabB n o2) ∧ Below w.heap.size w wr) (fun iv _ _ => n - (intOf iv).toNat)
      case atStart => exact ⟨0, Nat.zero_le _, rfl, World.ownsRow_nil _ _ _ _, HP1.out, HP2.out, HB5.out⟩
      case round =>
        clear HP1 HP2 HB5
        obtain ⟨j, hj, rfl, hq, ho1, ho2, hb⟩ := hrel
        have HQ := hid hq
        have HP1 := hid ho1
        have HP2 := hid ho2
        have HB := hid hb
        clear hq ho1 ho2 hb
        by_cases hlt : j < n
        · obtain ⟨g1, rfl, hg1, hcap1⟩ := own_idx HP1.out (by omega)
          obtain ⟨g2, rfl, hg2, hcap2⟩ := own_idx HP2.out (by omega)
          have hcell1 := HP1.out.cellAt j (by omega)
          have hcell2 := HP2.out.cellAt j (by omega)
          rw [tabB_at hlt] at hcell1 hcell2
          obtain ⟨m, hm⟩ : ∃ m, m = ((List.range j).filter fun t => o1 t && o2 t).length := ⟨_, rfl⟩
          have hmj : m ≤ j := by rw [hm]; have := List.length_filter_le (fun t => o1 t && o2 t) (List.range j); simpa using this
          have hapl : (m + 1) * 8 ≤ 140737488355328 := by omega
          have hsz : w.heap.size ≤ wr.heap.size := HB.out.size
          have HQ' : Hid (wr.ownsRow w.heap.size 3 1 u13 m (((List.range j).filter fun t => o1 t && o2 t).map iV)) := hm ▸ HQ.out
          have HBW : Hid (Below w.heap.size wr wr) := Below.refl _ _
          have HM := hid hm
          clear hm
          cases h1 : o1 j with
          | true =>
            rw [h1] at hcell1
            have HO1 := hid h1
            clear h1
            cases h2 : o2 j with
            | true =>
              rw [h2] at hcell2
              have HO2 := hid h2
              clear h2
              go_wp2_with (at_builtin; refine append1 (w0 := wr) w.heap.size (by rfl) (.tmp 75) (.tmp 77) 22 3 (.int .i64 0) 8 (by rfl) Tryd.underlying22 Tryd.infoInt (by rfl) (by decide) _ _ _ _ (by rfl) (by rfl) (by rfl) HQ'.out HBW.out hsz hapl ?_; intro v3 w3 o3 b3 g3 _)
              go_roundw
              case measure => simp [intOf]; omega
              case rel =>
                refine ⟨j + 1, by omega, by go_num, ?_, HP1.out.kept g3 (own_type_ne HP1.out HQ'.out (by decide)), HP2.out.kept g3 (own_type_ne HP2.out HQ'.out (by decide)), HB.out.trans b3⟩
                have e : (List.range (j + 1)).filter (fun t => o1 t && o2 t) = ((List.range j).filter fun t => o1 t && o2 t) ++ [j] := by rw [List.range_succ, List.filter_append]; simp [HO1.out, HO2.out]
                rw [e, List.length_append, List.map_append, ← HM.out]
                exact o3
            | false =>
              rw [h2] at hcell2
              have HO2 := hid h2
              clear h2
              go_wp2_with fail
              go_roundw
              case measure => simp [intOf]; omega
              case rel =>
                refine ⟨j + 1, by omega, by go_num, ?_, HP1.out, HP2.out, HB.out⟩
                have e : (List.range (j + 1)).filter (fun t => o1 t && o2 t) = ((List.range j).filter fun t => o1 t && o2 t) := by rw [List.range_succ, List.filter_append]; simp [HO2.out]
                rw [e]
                exact HQ.out
          | false =>
            rw [h1] at hcell1
            have HO1 := hid h1
            clear h1
            go_wp2_with fail
            go_roundw
            case measure => simp [intOf]; omega
            case rel =>
              refine ⟨j + 1, by omega, by go_num, ?_, HP1.out, HP2.out, HB.out⟩
              have e : (List.range (j + 1)).filter (fun t => o1 t && o2 t) = ((List.range j).filter fun t => o1 t && o2 t) := by rw [List.range_succ, List.filter_append]; simp [HO1.out]
              rw [e]
              exact HQ.out
        · obtain rfl : n = j := by omega
          have hq2 := HQ.out
          rw [show (List.range n).filter (fun t => o1 t && o2 t) = liveL (natG gs) n from HLIVE.out] at hq2
          have HQ2 := hid hq2
          clear hq2
          go_wp2_with fail
          go_ret2
          exact ⟨_, rfl, HQ2.out, HB.out⟩
end Go.Proofs.YtapebbejdgeijaaDoor
