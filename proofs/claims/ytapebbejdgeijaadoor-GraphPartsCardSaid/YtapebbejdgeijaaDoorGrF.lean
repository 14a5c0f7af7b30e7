/- graph: reach. -/
import Derived.Test.YtapebbejdgeijaaDoorGrD
import Derived.Lib.SliceRun
namespace Go.Proofs.YtapebbejdgeijaaDoor
open Go.RowKit Go.Extern.Stop Go.Stop Go.Extern Go.Deep Tar

theorem Tryd.infoBool : (Tryd.prog.info? 4).map (fun i => (i.zero, i.size, i.bytes)) = some (some (.bool false), 1, 1) := by kernel_rfl
def tabB (n : Nat) (o : Nat → Bool) : List Value := (List.range n).map fun j => Value.bool (o j)
theorem tabB_length (n : Nat) (o : Nat → Bool) : (tabB n o).length = n := by simp [tabB]
theorem tabB_at {n : Nat} {o : Nat → Bool} {j : Nat} (h : j < n) : (tabB n o)[j]? = some (.bool (o j)) := by
  unfold tabB; rw [List.getElem?_map, List.getElem?_range h]; rfl
theorem tabB_set {n : Nat} {o : Nat → Bool} (j : Nat) (x : Bool) : (tabB n o).set j (.bool x) = tabB n (upd o j x) := by
  apply List.ext_getElem?
  intro i
  rw [List.getElem?_set]
  by_cases hi : i < n
  · rw [tabB_at hi]
    by_cases e : j = i
    · subst e; rw [if_pos rfl, if_pos (by rw [tabB_length]; exact hi), tabB_at hi, upd_same]
    · rw [if_neg e, tabB_at hi, upd_ne _ _ _ (Ne.symm e)]
  · have h1 : (tabB n o)[i]? = none := List.getElem?_eq_none_iff.2 (by rw [tabB_length]; omega)
    have h2 : (tabB n (upd o j x))[i]? = none := List.getElem?_eq_none_iff.2 (by rw [tabB_length]; omega)
    rw [h2]
    split
    · rw [if_neg (by rw [tabB_length]; omega)]
    · exact h1
theorem tabB_one {n : Nat} {o : Nat → Bool} : ∀ u ∈ tabB n o, u.oneCell' = true := by
  intro u hu
  obtain ⟨j, _, rfl⟩ := List.mem_map.1 hu
  rfl

set_option maxRecDepth 100000 in
theorem cloneB_calls (w : World) (g n : Nat) (o : Nat → Bool) (hr : w.rowIs g 4 n (fun j => .bool (o j))) (hl : n ≤ 16384) :
    Calls Tryd.prog 107 #[.slice (some ⟨g, 0, none⟩) n n] w fun e w' => ∃ v', e = .returned v' ∧ w'.ownsRow w.heap.size 4 1 v' n (tabB n o) ∧ Below w.heap.size w w' := by
  have hq := fun (w : World) (a : Option Addr) (n c n' c' : Nat) => Lib.run_eql_slice_nil (P := Tryd.prog) w _ _ a n c n' c' Tryd.underlying117
  have HX := hid hr
  clear hr
  go_enter Tryd.func107, Tryd.ntmps107
  have HB : Hid (Below w.heap.size w (w.alloc (.cells #[] 4))) := below_new w (.cells #[] 4)
  have HO : Hid ((w.alloc (.cells #[] 4)).ownsRow w.heap.size 4 1 (.slice (some ⟨w.heap.size, 0, none⟩) 0 0) 0 []) := own_lit [] 4 0 rfl (by omega)
  have hsz : w.heap.size ≤ (w.alloc (.cells #[] 4)).heap.size := by simp
  have HLL : Hid ((tabB n o).length = n) := tabB_length n o
  have HC : Hid (0 < (tabB n o).length → ∃ b o', some (⟨g, 0, none⟩ : Addr) = some ⟨b, o', none⟩ ∧ ∀ j u, (tabB n o)[j]? = some u → (w.alloc (.cells #[] 4)).cell? ⟨b, o' + j, none⟩ = some u) := fun _ => ⟨g, 0, rfl, fun j u hj => by
    have hjn := (List.getElem?_eq_some_iff.1 hj).1
    rw [tabB_length] at hjn
    rw [tabB_at hjn] at hj
    obtain rfl := Option.some.inj hj
    rw [Nat.zero_add]
    exact ((rowIs_below HX.out HB.out HX.out.lt).cell hjn)⟩
  go_wp2_with (at_builtin; refine appendN (w0 := w) w.heap.size (by rfl) (.tmp 5) (.tmp 6) 117 4 (.bool false) 1 (by rfl) Tryd.underlying117 Tryd.infoBool (by rfl) (by decide) _ 0 [] (some ⟨g, 0, none⟩) n (tabB n o) (by rfl) (by rw [HLL.out]; rfl) tabB_one (fun e => absurd e (by simp)) HC.out HO.out HB.out hsz (by rw [HLL.out]; omega) ?_; intro v1 w1 o1 b1 g1 _)
  go_ret
  refine ⟨_, rfl, ?_, b1⟩
  rw [HLL.out] at o1
  simpa using o1

theorem stack_rev (l : List Nat) : stack l.reverse = l.map iV := by simp [stack]
theorem own_idx {w : World} {base n c : Nat} {e : TypeId} {A : Option Addr} {xs : List Value} (h : w.ownsRow base e 1 (.slice A n c) n xs) (hn : 0 < n) : ∃ g, A = some ⟨g, 0, none⟩ ∧ base ≤ g ∧ n ≤ c := by
  obtain ⟨g, c2, hv, _, hg, hc, _⟩ := own_form h hn
  simp only [Value.slice.injEq] at hv
  obtain ⟨rfl, -, rfl⟩ := hv
  exact ⟨g, rfl, hg, hc⟩

def ReachPost (w : World) (g : Nat → List Nat) (n : Nat) (mk : Nat → Bool) (e : Ending) (w' : World) : Prop :=
  ∃ v' o, e = .returned v' ∧ w'.ownsRow w.heap.size 4 1 v' n (tabB n o) ∧ Below w.heap.size w w' ∧ ∀ t, t < n → (o t = true ↔ ∃ u, mk u = true ∧ Tar.Reach (Arr g) u t)

set_option maxRecDepth 100000 in
set_option maxHeartbeats 800000 in
theorem gReach_calls (w : World) (A : Option Addr) (n c gm : Nat) (gs : List (List Int)) (hg : GrAt w A gs) (hn : n = gs.length) (mk : Nat → Bool) (hr : w.rowIs gm 4 n (fun j => .bool (mk j))) (hmn : ∀ u, mk u = true → u < n) :
    Calls Tryd.prog 67 #[.slice A n c, .slice (some ⟨gm, 0, none⟩) n n] w (ReachPost w (natG gs) n mk) := by
  have HG := hid hg
  have hn8 : n ≤ 8193 := by rw [hn]; exact hg.2.1
  have HGN : Hid (∀ x, ∀ t ∈ natG gs x, t < n) := fun x t ht => by rw [hn]; exact natG_lt hg.2 x t ht
  have HR := hid hr
  have HN := hid hn
  have HMN := hid hmn
  clear hg hr hn hmn
  go_enter Tryd.func67, Tryd.ntmps67
  go_wp2_with fail
  refine (cloneB_calls w gm n mk HR.out (by omega)).mono ?_
  rintro e w1 ⟨v1, rfl, ho1, hb1⟩
  obtain ⟨A1, c1, rfl, hc1, hm1⟩ := own_slice ho1
  have HO1 := hid ho1
  have HB1 := hid hb1
  have hs1 : w.heap.size ≤ w1.heap.size := hb1.size
  clear ho1 hb1
  go_wp2_with fail
  go_loopw [16, 6] (fun i q wr => ∃ j : Nat, j ≤ n ∧ i = .int .i64 j ∧ wr.ownsRow w.heap.size 3 1 q ((List.range j).filter mk).length (((List.range j).filter mk).map iV) ∧ wr.ownsRow w.heap.size 4 1 (.slice A1 n c1) n (tabB n mk) ∧ Below w.heap.size w wr) (fun i _ _ => n - (intOf i).toNat)
  case atStart => exact ⟨0, Nat.zero_le _, rfl, World.ownsRow_nil _ _ _ _, HO1.out, HB1.out⟩
  case round =>
    obtain ⟨j, hj, rfl, hq, ho, hb⟩ := hrel
    have HQ := hid hq
    have HO := hid ho
    have HB := hid hb
    clear hq ho hb
    by_cases hlt : j < n
    · obtain ⟨g1, rfl, hg1, hcap⟩ := own_idx HO.out (by omega)
      have hcell := HO.out.cellAt j (by omega)
      rw [tabB_at hlt] at hcell
      obtain ⟨m, hm⟩ : ∃ m, m = ((List.range j).filter mk).length := ⟨_, rfl⟩
      have hmj : m ≤ j := by rw [hm]; have := List.length_filter_le mk (List.range j); simpa using this
      have hapl : (m + 1) * 8 ≤ 140737488355328 := by omega
      have hsz : w.heap.size ≤ wr.heap.size := HB.out.size
      have HQ' : Hid (wr.ownsRow w.heap.size 3 1 u6 m (((List.range j).filter mk).map iV)) := hm ▸ HQ.out
      have HBW : Hid (Below w.heap.size wr wr) := Below.refl _ _
      have HM := hid hm
      clear hm
      cases hmk : mk j with
      | true =>
        rw [hmk] at hcell
        have HMK := hid hmk
        clear hmk
        go_wp2_with (at_builtin; refine append1 (w0 := wr) w.heap.size (by rfl) (.tmp 22) (.tmp 24) 22 3 (.int .i64 0) 8 (by rfl) Tryd.underlying22 Tryd.infoInt (by rfl) (by decide) _ _ _ _ (by rfl) (by rfl) (by rfl) HQ'.out HBW.out hsz hapl ?_; intro v3 w3 o3 b3 g3 _)
        go_roundw
        case measure => simp [intOf]; omega
        case rel =>
          refine ⟨j + 1, by omega, by go_num, ?_, HO.out.kept g3 (own_type_ne HO.out HQ'.out (by decide)), HB.out.trans b3⟩
          have e : (List.range (j + 1)).filter mk = (List.range j).filter mk ++ [j] := by rw [List.range_succ, List.filter_append]; simp [HMK.out]
          rw [e, List.length_append, List.map_append, ← HM.out]
          exact o3
      | false =>
        rw [hmk] at hcell
        have HMK := hid hmk
        clear hmk
        go_wp2_with fail
        go_roundw
        case measure => simp [intOf]; omega
        case rel =>
          refine ⟨j + 1, by omega, by go_num, ?_, HO.out, HB.out⟩
          have e : (List.range (j + 1)).filter mk = (List.range j).filter mk := by rw [List.range_succ, List.filter_append]; simp [HMK.out]
          rw [e]
          exact HQ.out
    · obtain rfl : n = j := by omega
      have HQ2 : Hid (wr.ownsRow w.heap.size 3 1 u6 ((List.range n).filter mk).reverse.length (stack ((List.range n).filter mk).reverse)) := by
        show World.ownsRow _ _ _ _ _ _ _
        rw [List.length_reverse, stack_rev]
        exact HQ.out
      clear HQ
      go_wp2_with fail
      go_loopg [6] (2 * cntF mk n + ((List.range n).filter mk).reverse.length) (fun m v6 wr => ∃ (o : Nat → Bool) (q : List Nat), 2 * cntF o n + q.length = m ∧ Tar.Mark (natG gs) n mk o q none 0 ∧ wr.ownsRow w.heap.size 3 1 v6 q.length (stack q) ∧ wr.ownsRow w.heap.size 4 1 (.slice A1 n c1) n (tabB n o) ∧ Below w.heap.size w wr)
      case atStart => exact ⟨mk, _, rfl, Tar.Mark.start mk, HQ2.out, HO.out, HB.out⟩
      case round =>
        obtain ⟨o, q, hm, hmk, hq, ho, hb⟩ := hrel
        have HM := hid hm
        have HMK := hid hmk
        have HO' := hid ho
        have HB' := hid hb
        have hql : q.length ≤ 8193 := by have := hmk.len; omega
        clear HO HB HQ2 hm hmk ho hb
        cases q with
        | nil =>
          obtain ⟨A6, c6, rfl, _, _⟩ := own_slice hq
          clear hq
          go_wp2_with fail
          go_ret
          exact ⟨_, o, rfl, HO'.out, HB'.out, fun t _ => HMK.out.end_ HGN.out HMN.out t⟩
        | cons v q =>
          obtain ⟨m6, hm6⟩ : ∃ m6, m6 = q.length := ⟨_, rfl⟩
          obtain ⟨M6, hM6⟩ : ∃ M6, M6 = m6 + 1 := ⟨_, rfl⟩
          have hq2 : wr.ownsRow w.heap.size 3 1 u6 M6 (stack (v :: q)) := by
            rw [hM6, hm6]; exact hq
          obtain ⟨g6, c6, rfl, _, hg6, hc6, _⟩ := own_form hq2 (by omega)
          have hcv := hq2.cellAt m6 (by omega)
          rw [show (stack (v :: q))[m6]? = some (iV v) by rw [hm6]; exact stack_at v q] at hcv
          have hq3 := own_cut hq2 (k := m6) (by omega)
          rw [hm6, stack_take, ← hm6] at hq3
          have HQ3 := hid hq3
          have hvn : v < n := (HMK.out.stk v (by simp)).2
          have HMP := hid HMK.out.pop
          have emq : (M6 : Int) - 1 = (m6 : Int) := by omega
          have hmm : m6 < M6 := by omega
          have hm6c : m6 ≤ c6 := by omega
          have hM6p : 0 < M6 := by omega
          have hm6l : m6 ≤ 8193 := by simp at hql; omega
          obtain ⟨ba, oa, A', c', rfl, hrow, hcap, hri⟩ := HG.out.row (show v < gs.length by rw [← HN.out]; exact hvn)
          have hba : ba < w.heap.size := World.block_lt_of_cell? w _ hrow
          replace hrow := (HB'.out.cell (show ba < w.heap.size from hba)).trans hrow
          have hL := HG.out.rowLen v
          obtain ⟨L, hLd⟩ : ∃ L, L = (natG gs v).length := ⟨_, rfl⟩
          rw [← hLd] at hrow hcap hL
          have HLD := hid hLd
          have HRI := hid hri
          have HM6 := hid hm6
          have HMG : Hid (2 * cntF o n + m6 < gk) := by show _ < _; rw [← HM.out, hm6]; simp
          clear hq hq2 hq3 hri hLd hM6 HMK HM hm6
          go_wp2_with fail
          have HO2 := hid HO'.out
          have HB2 := hid HB'.out
          clear HO' HB' hrow hcv
          go_loopw [46, 6] (fun i v6 wr => ∃ (j mq : Nat) (o' : Nat → Bool) (q' : List Nat), j ≤ L ∧ i = .int .i64 j ∧ mq = q'.length ∧ 2 * cntF o' n + mq < gk ∧ Tar.Mark (natG gs) n mk o' q' (some v) j ∧ wr.ownsRow w.heap.size 3 1 v6 mq (stack q') ∧ wr.ownsRow w.heap.size 4 1 (.slice A1 n c1) n (tabB n o') ∧ Below w.heap.size w wr) (fun i _ _ => L - (intOf i).toNat)
          case atStart => exact ⟨0, m6, o, q, Nat.zero_le _, rfl, HM6.out, HMG.out, HMP.out, HQ3.out, HO2.out, HB2.out⟩
          case round =>
            obtain ⟨j, mq, o', q', hj, rfl, hmq, hlt2, hmk, hq, ho, hb⟩ := hrel
            have HMQ := hid hmq
            have HLT := hid hlt2
            have HMK := hid hmk
            have HQ := hid hq
            have HO := hid ho
            have HB := hid hb
            have hmql : mq ≤ 8193 := by have := hmk.len; omega
            obtain ⟨A6, c6', rfl, _, _⟩ := own_slice hq
            clear hmq hlt2 hmk hq ho hb
            by_cases hjL : j < L
            · obtain ⟨t, ht⟩ : ∃ t, (natG gs v)[j]? = some t := ⟨_, List.getElem?_eq_getElem (by rw [← HLD.out]; exact hjL)⟩
              obtain ⟨b2, o2, t', rfl, ht', hct⟩ := (HRI.out.below HB.out (Nat.le_refl _)).at_ (show j < (ints (natG gs v)).length by rw [List.length_map, ← HLD.out]; exact hjL)
              obtain rfl : (t : Int) = t' := by rw [List.getElem?_map, ht] at ht'; exact Option.some.inj ht'
              have htn : t < n := HGN.out v t (mem_at ht)
              obtain ⟨g1, rfl, hg1, hcap1⟩ := own_idx HO.out (by omega)
              have hco := HO.out.cellAt t (by omega)
              rw [tabB_at htn] at hco
              have hfz := HO.out.frozenAt t
              have HT := hid ht
              clear ht ht'
              cases hot : o' t with
              | false =>
                rw [hot] at hco
                have HOT := hid hot
                clear hot
                have hapl : (mq + 1) * 8 ≤ 140737488355328 := by omega
                have hsz : w.heap.size ≤ (wr.setCell ⟨g1, t, none⟩ (.bool true)).heap.size := by have := HB.out.size; simp; exact this
                have HOs : Hid ((wr.setCell ⟨g1, t, none⟩ (.bool true)).ownsRow w.heap.size 4 1 (.slice (some ⟨g1, 0, none⟩) n c1) n (tabB n (upd o' t true))) := by
                  have := own_set HO.out t (.bool true)
                  rw [tabB_set] at this
                  exact this
                have HQs : Hid ((wr.setCell ⟨g1, t, none⟩ (.bool true)).ownsRow w.heap.size 3 1 (.slice A6 mq c6') mq (stack q')) := by
                  refine own_other HQ.out _ _ fun g hg e => ?_
                  rcases own_type_ne HQ.out HO.out (by decide) with h1 | h1
                  · rw [h1] at hg; cases hg
                  · exact h1 (by rw [hg]; exact congrArg some e)
                have HBs : Hid (Below w.heap.size w (wr.setCell ⟨g1, t, none⟩ (.bool true))) := HB.out.setCell (show w.heap.size ≤ g1 from hg1) _
                go_upto_region 17 with (fail)
                generalize wr.setCell ⟨g1, t, none⟩ (.bool true) = ws at *
                have HBW : Hid (Below w.heap.size ws ws) := Below.refl _ _
                go_wp2_with (at_builtin; refine append1 (w0 := ws) w.heap.size (by rfl) (.tmp 58) (.tmp 60) 22 3 (.int .i64 0) 8 (by rfl) Tryd.underlying22 Tryd.infoInt (by rfl) (by decide) _ _ _ _ (by rfl) (by rfl) (by rfl) HQs.out HBW.out hsz hapl ?_; intro v3 w3 o3 b3 g3 _)
                go_roundw
                case measure => simp [intOf]; omega
                case rel =>
                  have hc := cntF_upd HOT.out htn
                  refine ⟨j + 1, mq + 1, upd o' t true, t :: q', by omega, by go_num, by rw [HMQ.out]; rfl, by have := HLT.out; omega, HMK.out.push HT.out htn HOT.out, ?_, HOs.out.kept g3 (own_type_ne HOs.out HQs.out (by decide)), HBs.out.trans b3⟩
                  rw [stack_cons]
                  exact o3
              | true =>
                rw [hot] at hco
                have HOT := hid hot
                clear hot
                go_wp2_with fail
                go_roundw
                case measure => simp [intOf]; omega
                case rel => exact ⟨j + 1, mq, o', q', by omega, by go_num, HMQ.out, HLT.out, HMK.out.skip HT.out HOT.out, HQ.out, HO.out, HB.out⟩
            · go_wp2_with fail
              go_roundg (2 * cntF o' n + mq)
              case measure => exact HLT.out
              case rel =>
                refine ⟨o', q', by rw [HMQ.out], HMK.out.done (by rw [← HLD.out]; omega), ?_, HO.out, HB.out⟩
                rw [← HMQ.out]
                exact HQ.out
end Go.Proofs.YtapebbejdgeijaaDoor
