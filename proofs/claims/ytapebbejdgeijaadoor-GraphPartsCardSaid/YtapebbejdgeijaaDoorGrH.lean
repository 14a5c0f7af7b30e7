/- edenref12.far from one vertex. -/
import Derived.Test.YtapebbejdgeijaaDoorGrG
import Derived.Test.YtapebbejdgeijaaDoorGrF
namespace Go.Proofs.YtapebbejdgeijaaDoor
open Go.RowKit Go.Extern.Stop Go.Stop Go.Extern Go.Deep Tar

def FarPost (w : World) (g : Nat → List Nat) (n a : Nat) (e : Ending) (w' : World) : Prop :=
  ∃ (gx : Nat) (f : Nat → Int) (Q : List Nat) (i : Nat), e = .returned (.slice (some ⟨gx, 0, none⟩) n n) ∧ w'.rowIs gx 3 n (fun j => .int .i64 (f j)) ∧ Far g n [a] f Q i 0 ∧ Q.length ≤ i ∧ Below w.heap.size w w' ∧ w.heap.size ≤ gx ∧ ∀ t, f t ≤ 8193

set_option maxRecDepth 100000 in
set_option maxHeartbeats 1600000 in
theorem r12Far_calls (w : World) (A : Option Addr) (n c : Nat) (gs : List (List Int)) (hg : GrAt w A gs) (hn : n = gs.length) (g1 a : Nat) (ha : a < n) (hc : w.cell? ⟨g1, 0, none⟩ = some (iV a)) :
    Calls Tryd.prog 76 #[.slice A n c, .slice (some ⟨g1, 0, none⟩) 1 1] w (FarPost w (natG gs) n a) := by
  have HG := hid hg
  have hn8 : n ≤ 8193 := by rw [hn]; exact hg.2.1
  have HGN : Hid (∀ x, ∀ t ∈ natG gs x, t < n) := fun x t ht => by rw [hn]; exact natG_lt hg.2 x t ht
  have HN := hid hn
  have HC := hid hc
  have hg1 : g1 < w.heap.size := World.block_lt_of_cell? w _ hc
  have hmk := run_make_row' (P := Tryd.prog) 22 3 (.int .i64 0) 8 Tryd.underlying22 Tryd.infoInt rfl .i64 .i64 n (by omega) (by omega)
  have HB : Hid (Below w.heap.size w (w.alloc (.cells (madeCells #[.int .i64 0] n) 3))) := below_new _ _
  have HR0 : Hid ((w.alloc (.cells (madeCells #[.int .i64 0] n) 3)).rowIs w.heap.size 3 n (fun j => .int .i64 (if j < 0 then (-1) else 0))) := rowIs_made w (.int .i64 0) 3 n
  have hs0 : w.heap.size + 1 ≤ (w.alloc (.cells (madeCells #[.int .i64 0] n) 3)).heap.size := by simp
  clear hg hn hc
  go_enter Tryd.func76, Tryd.ntmps76
  go_wp2_with fail
  generalize w.alloc (.cells (madeCells #[.int .i64 0] n) 3) = w1 at *
  clear hmk
  go_loopw [6] (fun i wr => ∃ j : Nat, j ≤ n ∧ i = .int .i64 j ∧ wr.rowIs w.heap.size 3 n (fun k => .int .i64 (if k < j then (-1) else 0)) ∧ Below w.heap.size w wr ∧ w.heap.size + 1 ≤ wr.heap.size) (fun i _ => n - (intOf i).toNat)
  case atStart => exact ⟨0, Nat.zero_le _, rfl, HR0.out, HB.out, hs0⟩
  case round =>
    obtain ⟨j, hj, rfl, hr, hb, hs⟩ := hrel
    have HR := hid hr
    have HBW := hid hb
    clear hr hb
    by_cases hlt : j < n
    · have hcell := HR.out.cell hlt
      have hfz := HR.out.frozen j
      go_wp2_with fail
      go_roundw
      case measure => simp [intOf]; omega
      case rel =>
        refine ⟨j + 1, by omega, by go_num, rowIs_upd HR.out j _ fun k _ => ?_, HBW.out.setCell (Nat.le_refl _) _, by simp; exact hs⟩
        by_cases e : k = j
        · subst e; rw [if_pos (by omega), if_pos rfl]
        · rw [if_neg e]
          congr 1
          by_cases e2 : k < j
          · rw [if_pos e2, if_pos (by omega)]
          · rw [if_neg e2, if_neg (by omega)]
    · obtain rfl : n = j := by omega
      have HR2 : Hid (wr.rowIs w.heap.size 3 n (fun _ => .int .i64 (-1))) := HR.out.congr fun k hk => by rw [if_pos hk]
      clear HR HR0 HB hs0
      go_wp2_with fail
      obtain ⟨w2, hw2⟩ : ∃ w2, w2 = wr.alloc (.cells #[] 3) := ⟨_, rfl⟩
      have HB2 : Hid (Below (w.heap.size + 1) wr w2) := by show Below _ _ _; rw [hw2]; exact (below_new wr _).mono hs
      have HQ2 : Hid (w2.ownsRow (w.heap.size + 1) 3 1 (.slice (some ⟨wr.heap.size, 0, none⟩) 0 0) 0 []) := by
        show World.ownsRow _ _ _ _ _ _ _
        rw [hw2]
        exact own_base (own_lit [] 3 0 rfl (by omega)) hs
      have HR3 : Hid (w2.rowIs w.heap.size 3 n (fun _ => .int .i64 (-1))) := rowIs_below HR2.out HB2.out (Nat.lt_succ_self _)
      have HBW2 : Hid (Below w.heap.size w w2) := HBW.out.trans (HB2.out.mono (Nat.le_succ _))
      have hs2 : w.heap.size + 1 ≤ w2.heap.size := Nat.le_trans hs HB2.out.size
      rw [← hw2]
      clear hw2 HR2 HBW HB2
      have hgne : g1 ≠ w.heap.size := by omega
      go_loopw [8, 7] (fun i q wr => ∃ j : Nat, j ≤ 1 ∧ i = .int .i64 j ∧ wr.ownsRow (w.heap.size + 1) 3 1 q j (List.replicate j (iV a)) ∧ wr.rowIs w.heap.size 3 n (fun k => .int .i64 (if j = 1 ∧ k = a then 0 else (-1))) ∧ Below w.heap.size w wr ∧ w.heap.size + 1 ≤ wr.heap.size) (fun i _ _ => 1 - (intOf i).toNat)
      case atStart => exact ⟨0, Nat.zero_le _, rfl, HQ2.out, HR3.out.congr (fun k _ => rfl), HBW2.out, hs2⟩
      case round =>
        clear HQ2 HR3 HBW2 hs2
        obtain ⟨j, hj, rfl, hq, hr, hb, hs⟩ := hrel
        have HQ := hid hq
        have HR := hid hr
        have HBW := hid hb
        obtain ⟨A7, c7, rfl, _, _⟩ := own_slice hq
        clear hq hr hb
        by_cases h0 : j = 0
        · subst h0
          have hc1 := (HBW.out.cell (show g1 < w.heap.size from hg1)).trans HC.out
          have hca := HR.out.cell ha
          have hfa := HR.out.frozen a
          have HQs : Hid ((wr.setCell ⟨w.heap.size, a, none⟩ (.int .i64 0)).ownsRow (w.heap.size + 1) 3 1 (.slice A7 0 c7) 0 []) :=
            own_keep HQ.out w.heap.size (own_not_low2 HQ.out (Nat.lt_succ_self _)) (fun k hk => Below.heap_setCell _ _ _ _ (show k ≠ w.heap.size from hk))
          have HRs : Hid ((wr.setCell ⟨w.heap.size, a, none⟩ (.int .i64 0)).rowIs w.heap.size 3 n (fun k => .int .i64 (if k = a then 0 else (-1)))) :=
            rowIs_upd HR.out a _ fun k _ => by
              by_cases e : k = a
              · rw [if_pos e, if_pos e]
              · rw [if_neg e, if_neg e]; simp
          have HBs : Hid (Below w.heap.size w (wr.setCell ⟨w.heap.size, a, none⟩ (.int .i64 0))) := HBW.out.setCell (Nat.le_refl _) _
          have hss : w.heap.size + 1 ≤ (wr.setCell ⟨w.heap.size, a, none⟩ (.int .i64 0)).heap.size := by simp; exact hs
          have HSS := hid hss
          clear hss
          go_upto_region 11 with (fail)
          generalize wr.setCell ⟨w.heap.size, a, none⟩ (.int .i64 0) = ws at *
          have hc2 := (HBs.out.cell (show g1 < w.heap.size from hg1)).trans HC.out
          have HBB : Hid (Below (w.heap.size + 1) ws ws) := Below.refl _ _
          have hss := HSS.out
          clear hc1 hca hfa HQ HR HBW
          go_wp2_with (at_builtin; refine append1 (w0 := ws) (w.heap.size + 1) (by rfl) (.tmp 38) (.tmp 43) 22 3 (.int .i64 0) 8 (by rfl) Tryd.underlying22 Tryd.infoInt (by rfl) (by decide) _ 0 [] _ (by rfl) (by rfl) (by rfl) HQs.out HBB.out hss (by omega) ?_; intro v3 w3 o3 b3 g3 _)
          go_roundw
          case measure => simp [intOf]
          case rel =>
            refine ⟨1, Nat.le_refl _, by go_num, o3, (rowIs_below HRs.out b3 (Nat.lt_succ_self _)).congr (fun k _ => by simp), HBs.out.trans (b3.mono (Nat.le_succ _)), Nat.le_trans hss b3.size⟩
        · obtain rfl : 1 = j := by omega
          clear h0 hj
          have HR4 : Hid (wr.rowIs w.heap.size 3 n (fun k => .int .i64 (upd (fun _ => (-1 : Int)) a 0 k))) := HR.out.congr fun k _ => by
            show _ = Value.int .i64 (if k = a then (0 : Int) else (-1))
            congr 1
            by_cases e : k = a
            · rw [if_pos ⟨rfl, e⟩, if_pos e]
            · rw [if_neg (fun hh => e hh.2), if_neg e]
          clear HR
          go_wp2_with fail
          try rw [show ((1 : Nat) : Int) = 1 from rfl]
          go_loopw [9, 7] (fun iv q wr => ∃ (i mq : Nat) (f : Nat → Int) (Q : List Nat), i ≤ mq ∧ iv = .int .i64 i ∧ mq = Q.length ∧ Far (natG gs) n [a] f Q i 0 ∧ (∀ t, f t < mq) ∧ wr.ownsRow (w.heap.size + 1) 3 1 q mq (Q.map iV) ∧ wr.rowIs w.heap.size 3 n (fun k => .int .i64 (f k)) ∧ Below w.heap.size w wr ∧ w.heap.size + 1 ≤ wr.heap.size) (fun iv _ _ => n - (intOf iv).toNat)
          case atStart =>
            refine ⟨0, 1, upd (fun _ => -1) a 0, [a], by omega, rfl, rfl, Far.start_one ha, fun t => ?_, HQ.out, HR4.out, HBW.out, hs⟩
            show (if t = a then (0 : Int) else -1) < ((1 : Nat) : Int)
            split <;> simp
          case round =>
            clear HQ HR4 HBW hs
            obtain ⟨i, mq, f, Q, him, rfl, hmq, hF, hft, hq, hr, hb, hs⟩ := hrel
            have hmn : mq ≤ n := by rw [hmq]; exact nodup_len hF.nd hF.rng
            have HMQ := hid hmq
            have HF := hid hF
            have HFT := hid hft
            have HQ := hid hq
            have HR := hid hr
            have HBW := hid hb
            obtain ⟨A6, c6, rfl, _, _⟩ := own_slice hq
            clear hmq hF hft hq hr hb
            by_cases hlt : i < mq
            · obtain ⟨g6, rfl, hg6, hc6⟩ := own_idx HQ.out (by omega)
              obtain ⟨v, hv⟩ : ∃ v, Q[i]? = some v := ⟨_, List.getElem?_eq_getElem (by rw [← HMQ.out]; exact hlt)⟩
              have hvn : v < n := HF.out.rng v (List.mem_of_getElem? hv)
              have hcv := HQ.out.cellAt i (by omega)
              rw [List.getElem?_map, hv] at hcv
              replace hcv : wr.cell? ⟨g6, i, none⟩ = some (iV v) := hcv
              obtain ⟨ba, oa, A', c', rfl, hrow, hcap, hri⟩ := HG.out.row (show v < gs.length by rw [← HN.out]; exact hvn)
              have hba : ba < w.heap.size := World.block_lt_of_cell? w _ hrow
              have hL := HG.out.rowLen v
              obtain ⟨L, hLd⟩ : ∃ L, L = (natG gs v).length := ⟨_, rfl⟩
              rw [← hLd] at hrow hcap hL
              have HLD := hid hLd
              have HRI := hid hri
              have HROW := hid hrow
              have HV := hid hv
              clear hri hLd hrow hv
              go_wp2_with fail
              go_loopw [11, 7] (fun kv q wr => ∃ (k mq : Nat) (f : Nat → Int) (Q : List Nat), k ≤ L ∧ kv = .int .i64 k ∧ i < mq ∧ mq = Q.length ∧ Q[i]? = some v ∧ Far (natG gs) n [a] f Q i k ∧ (∀ t, f t < mq) ∧ wr.ownsRow (w.heap.size + 1) 3 1 q mq (Q.map iV) ∧ wr.rowIs w.heap.size 3 n (fun k => .int .i64 (f k)) ∧ Below w.heap.size w wr ∧ w.heap.size + 1 ≤ wr.heap.size) (fun kv _ _ => L - (intOf kv).toNat)
              case atStart => exact ⟨0, mq, f, Q, Nat.zero_le _, rfl, hlt, HMQ.out, HV.out, HF.out, HFT.out, HQ.out, HR.out, HBW.out, hs⟩
              case round =>
                clear HMQ HF HFT HQ HR HBW hs hcv HV
                obtain ⟨k, mq, f, Q, hk, rfl, him2, hmq, hv, hF, hft, hq, hr, hb, hs⟩ := hrel
                have hmn : mq ≤ n := by rw [hmq]; exact nodup_len hF.nd hF.rng
                have HMQ := hid hmq
                have HV := hid hv
                have HF := hid hF
                have HFT := hid hft
                have HQ := hid hq
                have HR := hid hr
                have HBW := hid hb
                obtain ⟨A7, c7, rfl, _, _⟩ := own_slice hq
                have hrow := (hb.cell (show ba < w.heap.size from hba)).trans HROW.out
                clear hmq hv hF hft hq hr hb
                by_cases hkL : k < L
                · obtain ⟨t, ht⟩ : ∃ t, (natG gs v)[k]? = some t := ⟨_, List.getElem?_eq_getElem (by rw [← HLD.out]; exact hkL)⟩
                  obtain ⟨b2, o2, t', rfl, ht', hct⟩ := (HRI.out.below HBW.out (Nat.le_refl _)).at_ (show k < (ints (natG gs v)).length by rw [List.length_map, ← HLD.out]; exact hkL)
                  obtain rfl : (t : Int) = t' := by rw [List.getElem?_map, ht] at ht'; exact Option.some.inj ht'
                  have htn : t < n := HGN.out v t (mem_at ht)
                  have HT := hid ht
                  obtain ⟨ft, hftd⟩ : ∃ ft, ft = f t := ⟨_, rfl⟩
                  obtain ⟨fv, hfvd⟩ : ∃ fv, fv = f v := ⟨_, rfl⟩
                  have hc1 : wr.cell? ⟨w.heap.size, t, none⟩ = some (.int .i64 ft) := by rw [hftd]; exact HR.out.cell htn
                  have hc2 : wr.cell? ⟨w.heap.size, v, none⟩ = some (.int .i64 fv) := by rw [hfvd]; exact HR.out.cell hvn
                  have hf1 := HR.out.frozen t
                  have hv0 : 0 ≤ fv := by rw [hfvd]; exact (HF.out.mem v).2 (List.mem_of_getElem? HV.out)
                  have hv1 : fv < mq := by rw [hfvd]; exact HFT.out v
                  have HFTD := hid hftd
                  have HFVD := hid hfvd
                  clear ht ht' hftd hfvd
                  by_cases hneg : ft < 0
                  · have HFN := hid (HF.out.push HV.out HT.out htn (by rw [← HFTD.out]; exact hneg))
                    have HRs : Hid ((wr.setCell ⟨w.heap.size, t, none⟩ (.int .i64 (fv + 1))).rowIs w.heap.size 3 n (fun j => .int .i64 (upd f t (f v + 1) j))) :=
                      rowIs_upd HR.out t _ fun j _ => by
                        rw [HFVD.out]
                        unfold upd
                        split <;> rfl
                    have HQs : Hid ((wr.setCell ⟨w.heap.size, t, none⟩ (.int .i64 (fv + 1))).ownsRow (w.heap.size + 1) 3 1 (.slice A7 mq c7) mq (Q.map iV)) :=
                      own_keep HQ.out w.heap.size (own_not_low2 HQ.out (Nat.lt_succ_self _)) (fun j hj => Below.heap_setCell _ _ _ _ (show j ≠ w.heap.size from hj))
                    have HBs : Hid (Below w.heap.size w (wr.setCell ⟨w.heap.size, t, none⟩ (.int .i64 (fv + 1)))) := HBW.out.setCell (Nat.le_refl _) _
                    have HSS : Hid (w.heap.size + 1 ≤ (wr.setCell ⟨w.heap.size, t, none⟩ (.int .i64 (fv + 1))).heap.size) := by show _ ≤ _; simp; exact hs
                    have hapl : (mq + 1) * 8 ≤ 140737488355328 := by omega
                    go_upto_region 22 with (fail)
                    generalize wr.setCell ⟨w.heap.size, t, none⟩ (.int .i64 (fv + 1)) = ws at *
                    have HBB : Hid (Below (w.heap.size + 1) ws ws) := Below.refl _ _
                    have hss := HSS.out
                    clear hc1 hc2 hf1 HQ HR HBW
                    go_wp2_with (at_builtin; refine append1 (w0 := ws) (w.heap.size + 1) (by rfl) (.tmp 84) (.tmp 86) 22 3 (.int .i64 0) 8 (by rfl) Tryd.underlying22 Tryd.infoInt (by rfl) (by decide) _ _ _ _ (by rfl) (by rfl) (by rfl) HQs.out HBB.out hss hapl ?_; intro v3 w3 o3 b3 g3 _)
                    go_roundw
                    case measure => simp [intOf]; omega
                    case rel =>
                      refine ⟨k + 1, mq + 1, upd f t (f v + 1), Q ++ [t], by omega, by go_num, by omega, by rw [HMQ.out]; simp, ?_, HFN.out, fun x => ?_, ?_, rowIs_below HRs.out b3 (Nat.lt_succ_self _), HBs.out.trans (b3.mono (Nat.le_succ _)), Nat.le_trans hss b3.size⟩
                      · rw [List.getElem?_append_left (by rw [← HMQ.out]; exact him2)]; exact HV.out
                      · have := HFT.out x
                        have := HFT.out v
                        unfold upd
                        split <;> omega
                      · rw [List.map_append]; exact o3
                  · have HFN := hid (HF.out.skip HV.out HT.out (by rw [← HFTD.out]; exact hneg))
                    go_wp2_with fail
                    go_roundw
                    case measure => simp [intOf]; omega
                    case rel => exact ⟨k + 1, mq, f, Q, by omega, by go_num, him2, HMQ.out, HV.out, HFN.out, HFT.out, HQ.out, HR.out, HBW.out, hs⟩
                · have HFN := hid (HF.out.next HV.out (by rw [← HLD.out]; omega))
                  go_wp2_with fail
                  go_roundw
                  case measure => simp [intOf]; omega
                  case rel => exact ⟨i + 1, mq, f, Q, by omega, by go_num, HMQ.out, HFN.out, HFT.out, HQ.out, HR.out, HBW.out, hs⟩
            · go_wp2_with fail
              go_ret
              exact ⟨_, f, Q, i, rfl, HR.out, HF.out, by rw [← HMQ.out]; omega, HBW.out, Nat.le_refl _, fun t => by have := HFT.out t; omega⟩
end Go.Proofs.YtapebbejdgeijaaDoor
