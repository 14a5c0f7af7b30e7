/- edenref12.Live. -/
import Derived.Test.YtapebbejdgeijaaDoorGrJ
namespace Go.Proofs.YtapebbejdgeijaaDoor
open Go.RowKit Go.Extern.Stop Go.Stop Go.Extern Go.Deep Tar

/-- What Live of the reference holds: two rows of numbers, a row of marks, a queue. -/
structure LvAt (wT wr : World) (gO gI gG n : Nat) (ou inn : Nat → Int) (gone : Nat → Bool) (q : Value) (mq : Nat) (Q : List Nat) : Prop where
  o : wr.rowIs gO 3 n (fun t => .int .i64 (ou t))
  i : wr.rowIs gI 3 n (fun t => .int .i64 (inn t))
  g : wr.rowIs gG 4 n (fun t => .bool (gone t))
  q : wr.ownsRow (gG + 1) 3 1 q mq (Q.map iV)
  b : Below wT.heap.size wT wr
  l : wT.heap.size ≤ gO ∧ gO < gI ∧ gI < gG
  s : gG + 1 ≤ wr.heap.size
variable {wT wr : World} {gO gI gG n : Nat} {ou inn : Nat → Int} {gone : Nat → Bool} {q : Value} {mq : Nat} {Q : List Nat}
theorem LvAt.setO (h : LvAt wT wr gO gI gG n ou inn gone q mq Q) (t : Nat) (x : Int) (ou' : Nat → Int) (he : ∀ j, j < n → ou' j = if j = t then x else ou j) : LvAt wT (wr.setCell ⟨gO, t, none⟩ (.int .i64 x)) gO gI gG n ou' inn gone q mq Q :=
  ⟨rowIs_upd (f' := fun t => .int .i64 (ou' t)) h.o t _ (fun j hj => by show Value.int .i64 (ou' j) = _; rw [he j hj]; split <;> rfl), rowIs_other h.i (by have := h.l; omega), rowIs_other h.g (by have := h.l; omega), own_keep h.q gO (own_not_low2 h.q (by have := h.l; omega)) (fun i hi => Below.heap_setCell _ _ _ _ (show i ≠ gO from hi)), h.b.setCell (show wT.heap.size ≤ gO from h.l.1) _, h.l, by simp; exact h.s⟩
theorem LvAt.setI (h : LvAt wT wr gO gI gG n ou inn gone q mq Q) (t : Nat) (x : Int) (inn' : Nat → Int) (he : ∀ j, j < n → inn' j = if j = t then x else inn j) : LvAt wT (wr.setCell ⟨gI, t, none⟩ (.int .i64 x)) gO gI gG n ou inn' gone q mq Q :=
  ⟨rowIs_other h.o (by have := h.l; omega), rowIs_upd (f' := fun t => .int .i64 (inn' t)) h.i t _ (fun j hj => by show Value.int .i64 (inn' j) = _; rw [he j hj]; split <;> rfl), rowIs_other h.g (by have := h.l; omega), own_keep h.q gI (own_not_low2 h.q (by have := h.l; omega)) (fun i hi => Below.heap_setCell _ _ _ _ (show i ≠ gI from hi)), h.b.setCell (show wT.heap.size ≤ gI by have := h.l; omega) _, h.l, by simp; exact h.s⟩
theorem LvAt.setG (h : LvAt wT wr gO gI gG n ou inn gone q mq Q) (t : Nat) : LvAt wT (wr.setCell ⟨gG, t, none⟩ (.bool true)) gO gI gG n ou inn (upd gone t true) q mq Q :=
  ⟨rowIs_other h.o (by have := h.l; omega), rowIs_other h.i (by have := h.l; omega), rowIs_upd (f' := fun j => .bool (upd gone t true j)) h.g t _ (fun j _ => by show Value.bool (upd gone t true j) = _; unfold upd; split <;> rfl), own_keep h.q gG (own_not_low2 h.q (by omega)) (fun i hi => Below.heap_setCell _ _ _ _ (show i ≠ gG from hi)), h.b.setCell (show wT.heap.size ≤ gG by have := h.l; omega) _, h.l, by simp; exact h.s⟩
theorem LvAt.push (h : LvAt wT wr gO gI gG n ou inn gone q mq Q) {w1 : World} {v1 : Value} {t : Nat} (ho : w1.ownsRow (gG + 1) 3 1 v1 (mq + 1) (Q.map iV ++ [iV t])) (hb : Below (gG + 1) wr w1) : LvAt wT w1 gO gI gG n ou inn gone v1 (mq + 1) (Q ++ [t]) :=
  ⟨rowIs_below h.o hb (by have := h.l; omega), rowIs_below h.i hb (by have := h.l; omega), rowIs_below h.g hb (by omega), by rw [List.map_append]; exact ho, h.b.trans (hb.mono (by have := h.l; omega)), h.l, Nat.le_trans h.s hb.size⟩

def RLivePost (w : World) (g : Nat → List Nat) (n : Nat) (e : Ending) (w' : World) : Prop :=
  ∃ A c, e = .returned (.tuple #[.slice A (liveL g n).length c, zeroErr]) ∧ w'.ownsRow 0 3 1 (.slice A (liveL g n).length c) (liveL g n).length ((liveL g n).map iV) ∧ Below w.heap.size w w'

set_option maxRecDepth 100000 in
set_option maxHeartbeats 6400000 in
theorem r12Live_ok (w : World) (A : Option Addr) (n c : Nat) (gs : List (List Int)) (hr : RII w .i64 A gs) (hn : n = gs.length) (hb : graphBad gs = none) (hl : ∀ xs ∈ gs, xs.length ≤ 17592186043904) :
    Calls Tryd.prog 29 #[.slice A n c] w (RLivePost w (natG gs) n) := by
  have hg : GrAt w A gs := ⟨hr, GOk.of_bad hb⟩
  have HG := hid hg
  have hn8 : n ≤ 8192 := by rw [hn]; exact (graphOk hb).1
  have hsum : sumG (natG gs) n ≤ 262144 := by rw [hn, sumG_take gs.length (Nat.le_refl _), List.take_length]; exact (graphOk hb).2.1
  have HGN : Hid (∀ x, ∀ t ∈ natG gs x, t < n) := fun x t ht => by rw [hn]; exact natG_lt hg.2 x t ht
  have HGO : Hid (∀ v, n ≤ v → natG gs v = []) := fun v hv => natG_out v (by rw [← hn]; exact hv)
  have HTL : Hid (∀ t, (turn (natG gs) n t).length ≤ 262144) := fun t => Nat.le_trans (turn_len _ t n) hsum
  have HGL : Hid (∀ t, (natG gs t).length ≤ 262144) := fun t => natG_len hg.2 t
  have HN := hid hn
  have HBAD := hid hb
  have HL := hid hl
  have HSUM := hid hsum
  have HCELL := hid (ErrCell.new w)
  have HBW := hid (below_new w (.cells #[.int .i64 0, .slice none 0 0, .slice none 0 0] 39))
  clear hg hr hn hb hl hsum
  go_enter Tryd.func29, Tryd.ntmps29
  go_wp2_with fail
  generalize w.alloc (.cells #[.int .i64 0, .slice none 0 0, .slice none 0 0] 39) = w1 at *
  refine (r12Check_calls w1 A n c gs HN.out (HG.out.below HBW.out).1 HL.out).mono ?_
  rintro e w2 ⟨Aa, la, ca, Ab, lb, cb, rfl, herr, hb2⟩
  rw [show graphBad gs = none from HBAD.out]
  have HB2 := hid hb2
  clear herr hb2
  go_wp2_with fail
  rw [show errN none = 0 from rfl]
  refine (errBad_calls _ 0 _ _).mono ?_
  rintro e w3 ⟨rfl, hb3⟩
  rw [show ((0 : Int) != 0) = false from rfl]
  have HB3 : Hid (Below w1.heap.size w1 w3) := below_then HB2.out (below_then (below_new w2 _) hb3 (below_new w2 _).size) HB2.out.size
  have HG3 := hid ((HG.out.below HBW.out).below HB3.out)
  clear HB2 hb3
  go_wp2_with fail
  refine (r12Turned_calls w3 A n c gs HG3.out HN.out HSUM.out).mono ?_
  rintro e wT ⟨rv, rfl, hrows, hbT⟩
  have HGT := hid (HG3.out.below hbT)
  have hgbT : w3.heap.size < wT.heap.size := hrows.blk.lt
  have HBR : Hid (∀ t, t < n → ∃ A c, wT.cell? ⟨w3.heap.size, t, none⟩ = some (.slice A (turn (natG gs) n t).length c) ∧ RI wT .i64 A (ints (turn (natG gs) n t))) := fun t ht => by
    have ho := hrows.own t ht
    rw [show (turn (natG gs) n t).map iV = (ints (turn (natG gs) n t)).map (Value.int .i64) by simp] at ho
    obtain ⟨A1, c1, hv1, _, _, hr1⟩ := own_ri ho
    exact ⟨A1, c1, by rw [hrows.blk.cell ht, hv1]; simp, hr1⟩
  have HBT := hid (below_then HB3.out hbT HB3.out.size)
  generalize w3.heap.size = gb at *
  clear hrows hbT HG3 HB3
  have hmk := run_make_row' (P := Tryd.prog) 22 3 (.int .i64 0) 8 Tryd.underlying22 Tryd.infoInt rfl .i64 .i64 n (by omega) (by omega)
  have hmkb := run_make_row' (P := Tryd.prog) 117 4 (.bool false) 1 Tryd.underlying117 Tryd.infoBool rfl .i64 .i64 n (by omega) (by omega)
  obtain ⟨w4, hw4⟩ : ∃ w4, w4 = wT.alloc (.cells (madeCells #[.int .i64 0] n) 3) := ⟨_, rfl⟩
  obtain ⟨w5, hw5⟩ : ∃ w5, w5 = w4.alloc (.cells (madeCells #[.int .i64 0] n) 3) := ⟨_, rfl⟩
  obtain ⟨w6, hw6⟩ : ∃ w6, w6 = w5.alloc (.cells (madeCells #[.bool false] n) 4) := ⟨_, rfl⟩
  have s4 : w4.heap.size = wT.heap.size + 1 := by rw [hw4]; simp
  have s5 : w5.heap.size = wT.heap.size + 1 + 1 := by rw [hw5]; simp [s4]
  have s6 : w6.heap.size = wT.heap.size + 1 + 1 + 1 := by rw [hw6]; simp [s5]
  have b4 : Below wT.heap.size wT w4 := by rw [hw4]; exact below_new _ _
  have b5 : Below w4.heap.size w4 w5 := by rw [hw5]; exact below_new _ _
  have b6 : Below w5.heap.size w5 w6 := by rw [hw6]; exact below_new _ _
  have HLV0 : Hid (LvAt wT w6 wT.heap.size (wT.heap.size + 1) (wT.heap.size + 1 + 1) n (fun _ => 0) (fun _ => 0) (fun _ => false) (.slice none 0 0) 0 []) := by
    refine ⟨?_, ?_, ?_, World.ownsRow_nil _ _ _ _, below_then (below_then b4 b5 b4.size) b6 (Nat.le_trans b4.size b5.size), by omega, by omega⟩
    · have h : w4.rowIs wT.heap.size 3 n (fun _ => .int .i64 0) := by rw [hw4]; exact rowIs_made _ _ _ _
      exact rowIs_below (rowIs_below h b5 (by omega)) b6 (by omega)
    · have h : w5.rowIs (wT.heap.size + 1) 3 n (fun _ => .int .i64 0) := by rw [hw5, ← s4]; exact rowIs_made _ _ _ _
      exact rowIs_below h b6 (by omega)
    · rw [hw6, ← s5]; exact rowIs_made _ _ _ _
  have HW6 : Hid (w6 = ((wT.alloc (.cells (madeCells #[.int .i64 0] n) 3)).alloc (.cells (madeCells #[.int .i64 0] n) 3)).alloc (.cells (madeCells #[.bool false] n) 4)) := by show _ = _; rw [hw6, hw5, hw4]
  clear hw4 hw5 hw6 s4 s5 s6 b4 b5 b6
  go_wp2_with fail
  rw [← show w6 = _ from HW6.out]
  generalize wT.heap.size + 1 + 1 = gG at *
  generalize wT.heap.size + 1 = gI at *
  generalize hgO : wT.heap.size = gO at HLV0 ⊢
  clear hgO HW6 hmk hmkb
  go_loopw [10, 9] (fun iv q wr => ∃ (j mq : Nat) (gone : Nat → Bool) (Q : List Nat), j ≤ n ∧ iv = .int .i64 j ∧ mq = Q.length ∧ mq ≤ j ∧ Peel0 (natG gs) n gone Q j ∧ LvAt wT wr gO gI gG n (fun t => if t < j then ((natG gs t).length : Int) else 0) (fun t => if t < j then ((turn (natG gs) n t).length : Int) else 0) gone q mq Q) (fun iv _ _ => n - (intOf iv).toNat)
  case atStart => exact ⟨0, 0, fun _ => false, [], Nat.zero_le _, rfl, rfl, Nat.le_refl _, Peel0.start, HLV0.out⟩
  case round =>
    clear HLV0
    obtain ⟨j, mq, gone, Q, hj, rfl, hmq, hmj, hP, hV⟩ := hrel
    have HMQ := hid hmq
    have HP := hid hP
    have HV := hid hV
    clear hmq hP hV
    by_cases hlt : j < n
    · obtain ⟨ba, oa, A', c', rfl, hrow, hcap, hri⟩ := HGT.out.row (show j < gs.length by rw [← HN.out]; exact hlt)
      have hba : ba < wT.heap.size := World.block_lt_of_cell? wT _ hrow
      obtain ⟨Ab', cb', hrowb, hrib⟩ := HBR.out j hlt
      have hL := HGL.out j
      have hLb := HTL.out j
      obtain ⟨L, hLd⟩ : ∃ L, L = (natG gs j).length := ⟨_, rfl⟩
      obtain ⟨Lb, hLbd⟩ : ∃ Lb, Lb = (turn (natG gs) n j).length := ⟨_, rfl⟩
      rw [← hLd] at hrow hcap hL
      rw [← hLbd] at hrowb hLb
      have HV1 := hid (HV.out.setO j (L : Int) (fun t => if t < j + 1 then ((natG gs t).length : Int) else 0) (fun t _ => by
        by_cases e : t = j
        · subst e; rw [if_pos (by omega), if_pos rfl, hLd]
        · rw [if_neg e]; by_cases e2 : t < j
          · rw [if_pos e2, if_pos (by omega)]
          · rw [if_neg e2, if_neg (by omega)]))
      have HV2 := hid (HV1.out.setI j (Lb : Int) (fun t => if t < j + 1 then ((turn (natG gs) n t).length : Int) else 0) (fun t _ => by
        by_cases e : t = j
        · subst e; rw [if_pos (by omega), if_pos rfl, hLbd]
        · rw [if_neg e]; by_cases e2 : t < j
          · rw [if_pos e2, if_pos (by omega)]
          · rw [if_neg e2, if_neg (by omega)]))
      have HV3 := hid (HV2.out.setG j)
      have o1 := HV.out.o.cell hlt
      have o2 := HV.out.o.frozen j
      obtain ⟨Aq, cq, rfl, _, _⟩ := own_slice HV.out.q
      have hapl : (mq + 1) * 8 ≤ 140737488355328 := by omega
      have HEO : Hid ((natG gs j = [] ∨ turn (natG gs) n j = []) ↔ (L = 0 ∨ Lb = 0)) := by
        show _ ↔ _
        rw [hLd, hLbd, List.length_eq_zero_iff, List.length_eq_zero_iff]
      have HROWB := hid hrowb
      have HLD := hid hLd
      have HLBD := hid hLbd
      have r1 := (HV.out.b.cell (show ba < wT.heap.size from hba)).trans hrow
      clear hLd hLbd hri hrib hrow hrowb
      go_upto_region 13 with (fail)
      generalize wr.setCell ⟨gO, j, none⟩ (.int .i64 (L : Int)) = wa at *
      have r2 := (HV1.out.b.cell (show gb < wT.heap.size from hgbT)).trans HROWB.out
      have i1 := HV1.out.i.cell hlt
      have i2 := HV1.out.i.frozen j
      clear r1 o1 o2 HV
      go_upto_region 14 with (fail)
      generalize wa.setCell ⟨gI, j, none⟩ (.int .i64 (Lb : Int)) = wb at *
      have q1 : wb.cell? ⟨gO, j, none⟩ = some (.int .i64 (L : Int)) := by rw [HV2.out.o.cell hlt, if_pos (by omega), HLD.out]
      have q2 : wb.cell? ⟨gI, j, none⟩ = some (.int .i64 (Lb : Int)) := by rw [HV2.out.i.cell hlt, if_pos (by omega), HLBD.out]
      have q3 := HV2.out.g.cell hlt
      have q4 := HV2.out.g.frozen j
      clear r2 i1 i2 HV1
      by_cases hL0 : L = 0
      · have HPN := hid (HP.out.push (HEO.out.2 (.inl hL0)))
        have hb1 : ((L : Int) == 0) = true := by simp; omega
        clear hL0
        go_upto_region 16 with (fail)
        generalize wb.setCell ⟨gG, j, none⟩ (.bool true) = wc at *
        have hss := HV3.out.s
        have HQ3 := hid HV3.out.q
        have HBB : Hid (Below (gG + 1) wc wc) := Below.refl _ _
        clear q1 q2 q3 q4 HV2
        go_wp2_with (at_builtin; refine append1 (w0 := wc) (gG + 1) (by rfl) (.tmp 72) (.tmp 74) 22 3 (.int .i64 0) 8 (by rfl) Tryd.underlying22 Tryd.infoInt (by rfl) (by decide) _ _ _ _ (by rfl) (by rfl) (by rfl) HQ3.out HBB.out hss hapl ?_; intro v3 w3' o3 b3 g3 _)
        have HV4 := hid (HV3.out.push o3 b3)
        go_roundw
        case measure => simp [intOf]; omega
        case rel => exact ⟨j + 1, mq + 1, _, Q ++ [j], by omega, by go_num, by rw [HMQ.out]; simp, by omega, HPN.out, HV4.out⟩
      · have hb1 : ((L : Int) == 0) = false := by simp; omega
        by_cases hLb0 : Lb = 0
        · have HPN := hid (HP.out.push (HEO.out.2 (.inr hLb0)))
          have hb2 : ((Lb : Int) == 0) = true := by simp; omega
          clear hLb0
          go_upto_region 16 with (fail)
          generalize wb.setCell ⟨gG, j, none⟩ (.bool true) = wc at *
          have hss := HV3.out.s
          have HQ3 := hid HV3.out.q
          have HBB : Hid (Below (gG + 1) wc wc) := Below.refl _ _
          clear q1 q2 q3 q4 HV2
          go_wp2_with (at_builtin; refine append1 (w0 := wc) (gG + 1) (by rfl) (.tmp 72) (.tmp 74) 22 3 (.int .i64 0) 8 (by rfl) Tryd.underlying22 Tryd.infoInt (by rfl) (by decide) _ _ _ _ (by rfl) (by rfl) (by rfl) HQ3.out HBB.out hss hapl ?_; intro v3 w3' o3 b3 g3 _)
          have HV4 := hid (HV3.out.push o3 b3)
          go_roundw
          case measure => simp [intOf]; omega
          case rel => exact ⟨j + 1, mq + 1, _, Q ++ [j], by omega, by go_num, by rw [HMQ.out]; simp, by omega, HPN.out, HV4.out⟩
        · have HPN := hid (HP.out.skip (fun hh => by have := HEO.out.1 hh; omega))
          have hb2 : ((Lb : Int) == 0) = false := by simp; omega
          go_wp2_with fail
          go_roundw
          case measure => simp [intOf]; omega
          case rel => exact ⟨j + 1, mq, gone, Q, by omega, by go_num, HMQ.out, by omega, HPN.out, HV2.out⟩
    · obtain rfl : n = j := by omega
      have HPL := hid (HP.out.peel HGO.out 0)
      have HV2 : Hid (LvAt wT wr gO gI gG n (fun t => ((natG gs t).length : Int)) (fun t => ((turn (natG gs) n t).length : Int)) gone u9 mq Q) := by
        have h := HV.out
        exact ⟨h.o.congr fun t ht => by rw [if_pos ht], h.i.congr fun t ht => by rw [if_pos ht], h.g, h.q, h.b, h.l, h.s⟩
      clear HP HV
      go_wp2_with fail
      go_loopw [11, 9] (fun iv q wr => ∃ (i mq : Nat) (ou inn : Nat → Nat) (gone : Nat → Bool) (Q : List Nat), i ≤ mq ∧ iv = .int .i64 i ∧ mq = Q.length ∧ Peel (natG gs) n ou inn gone Q i 0 0 0 ∧ LvAt wT wr gO gI gG n (fun t => (ou t : Int)) (fun t => (inn t : Int)) gone q mq Q) (fun iv _ _ => n - (intOf iv).toNat)
      case atStart => exact ⟨0, mq, _, _, gone, Q, Nat.zero_le _, rfl, HMQ.out, HPL.out, HV2.out⟩
      case round =>
        clear HPL HV2 HMQ
        obtain ⟨i, mq, ou, inn, gone, Q, him, rfl, hmq, hP, hV⟩ := hrel
        have hmn : mq ≤ n := by rw [hmq]; exact nodup_len hP.nd hP.rng
        have HMQ := hid hmq
        have HP := hid hP
        have HV := hid hV
        obtain ⟨Aq, cq, rfl, _, _⟩ := own_slice hV.q
        clear hmq hP hV
        by_cases hlt : i < mq
        · obtain ⟨g6, rfl, hg6, hc6⟩ := own_idx HV.out.q (by omega)
          obtain ⟨v, hv⟩ : ∃ v, Q[i]? = some v := ⟨_, List.getElem?_eq_getElem (by rw [← HMQ.out]; exact hlt)⟩
          have hvn : v < n := HP.out.rng v (List.mem_of_getElem? hv)
          have hcv := HV.out.q.cellAt i (by omega)
          rw [List.getElem?_map, hv] at hcv
          replace hcv : wr.cell? ⟨g6, i, none⟩ = some (iV v) := hcv
          obtain ⟨ba, oa, A', c', rfl, hrow, hcap, hri⟩ := HGT.out.row (show v < gs.length by rw [← HN.out]; exact hvn)
          have hba : ba < wT.heap.size := World.block_lt_of_cell? wT _ hrow
          obtain ⟨Ab', cb', hrowb, hrib⟩ := HBR.out v hvn
          have hL := HGL.out v
          have hLb := HTL.out v
          obtain ⟨L, hLd⟩ : ∃ L, L = (natG gs v).length := ⟨_, rfl⟩
          obtain ⟨Lb, hLbd⟩ : ∃ Lb, Lb = (turn (natG gs) n v).length := ⟨_, rfl⟩
          rw [← hLd] at hrow hcap hL
          rw [← hLbd] at hrowb hLb
          have HROW := hid hrow
          have HROWB := hid hrowb
          have HRI := hid hri
          have HRIB := hid hrib
          have HLD := hid hLd
          have HLBD := hid hLbd
          have HVQ := hid hv
          have HP0 := hid (HP.out.at_ v)
          clear hrow hrowb hri hrib hLd hLbd hv HP
          go_wp2_with fail
          go_loopw [13, 9] (fun kv q wr => ∃ (k mq : Nat) (ou inn : Nat → Nat) (gone : Nat → Bool) (Q : List Nat), k ≤ L ∧ kv = .int .i64 k ∧ i < mq ∧ mq = Q.length ∧ Q[i]? = some v ∧ Peel (natG gs) n ou inn gone Q i v k 0 ∧ LvAt wT wr gO gI gG n (fun t => (ou t : Int)) (fun t => (inn t : Int)) gone q mq Q) (fun kv _ _ => L - (intOf kv).toNat)
          case atStart => exact ⟨0, mq, ou, inn, gone, Q, Nat.zero_le _, rfl, hlt, HMQ.out, HVQ.out, HP0.out, HV.out⟩
          case round =>
            clear HP0 HV HMQ HVQ hcv
            obtain ⟨k, mq, ou, inn, gone, Q, hk, rfl, him2, hmq, hv, hP, hV⟩ := hrel
            have hmn : mq ≤ n := by rw [hmq]; exact nodup_len hP.nd hP.rng
            have HMQ := hid hmq
            have HVQ := hid hv
            have HP := hid hP
            have HV := hid hV
            obtain ⟨Aq, cq, rfl, _, _⟩ := own_slice hV.q
            have hrow := (hV.b.cell (show ba < wT.heap.size from hba)).trans HROW.out
            clear hmq hv hP hV
            by_cases hkL : k < L
            · obtain ⟨t, ht⟩ : ∃ t, (natG gs v)[k]? = some t := ⟨_, List.getElem?_eq_getElem (by rw [← HLD.out]; exact hkL)⟩
              obtain ⟨b2, o2, t', rfl, ht', hct⟩ := (HRI.out.below HV.out.b (Nat.le_refl _)).at_ (show k < (ints (natG gs v)).length by rw [List.length_map, ← HLD.out]; exact hkL)
              obtain rfl : (t : Int) = t' := by rw [List.getElem?_map, ht] at ht'; exact Option.some.inj ht'
              have htn : t < n := HGN.out v t (mem_at ht)
              obtain ⟨hpos, h1imp⟩ := HP.out.in_pos HGO.out HVQ.out ht htn
              obtain ⟨a, had⟩ : ∃ a, a = inn t := ⟨_, rfl⟩
              have hal : a ≤ 262144 := by
                rw [had]
                have h1 := HP.out.ci t htn
                have h2 := List.countP_le_length (p := notIn (Q.take i)) (l := turn (natG gs) n t)
                have h3 := HTL.out t
                omega
              rw [← had] at hpos
              have e1 : wr.cell? ⟨gI, t, none⟩ = some (.int .i64 (a : Int)) := by rw [had]; exact HV.out.i.cell htn
              have e2 := HV.out.i.frozen t
              have HV1 := hid (HV.out.setI t ((a : Int) - 1) (fun j => ((upd inn t (inn t - 1) j : Nat) : Int)) (fun j _ => by
                unfold upd
                split
                · rw [← had]; omega
                · rfl))
              have HT := hid ht
              have HAD := hid had
              have HPOS := hid hpos
              clear ht ht' had h1imp
              go_upto_region 26 with (fail)
              generalize wr.setCell ⟨gI, t, none⟩ (.int .i64 ((a : Int) - 1)) = wa at *
              have q1 : wa.cell? ⟨gI, t, none⟩ = some (.int .i64 ((a : Int) - 1)) := by
                rw [HV1.out.i.cell htn, upd_same, ← HAD.out]
                congr 2
                have := HPOS.out
                omega
              obtain ⟨gt, hgt⟩ : ∃ gt, gt = gone t := ⟨_, rfl⟩
              have q2 : wa.cell? ⟨gG, t, none⟩ = some (.bool gt) := by rw [hgt]; exact HV1.out.g.cell htn
              have q3 := HV1.out.g.frozen t
              have HGT2 := hid hgt
              clear hgt e1 e2 hrow hct
              by_cases ha1 : a = 1
              · have hb1 : (((a : Int) - 1) == 0) = true := by simp; omega
                cases gt with
                | false =>
                  have hnq : t ∉ Q := fun hh => by
                    have h1 := (HP.out.qg t).2 hh
                    rw [← HGT2.out] at h1
                    cases h1
                  have HPN := hid (HP.out.in_push HGO.out HVQ.out HT.out htn (HAD.out.symm.trans ha1) hnq)
                  have HV2 := hid (HV1.out.setG t)
                  have hapl : (mq + 1) * 8 ≤ 140737488355328 := by omega
                  clear hnq
                  go_upto_region 28 with (fail)
                  generalize wa.setCell ⟨gG, t, none⟩ (.bool true) = wb at *
                  have hss := HV2.out.s
                  have HQ3 := hid HV2.out.q
                  have HBB : Hid (Below (gG + 1) wb wb) := Below.refl _ _
                  clear q1 q2 q3 HV1 HV
                  go_wp2_with (at_builtin; refine append1 (w0 := wb) (gG + 1) (by rfl) (.tmp 123) (.tmp 125) 22 3 (.int .i64 0) 8 (by rfl) Tryd.underlying22 Tryd.infoInt (by rfl) (by decide) _ _ _ _ (by rfl) (by rfl) (by rfl) HQ3.out HBB.out hss hapl ?_; intro v3 w3' o3 b3 g3 _)
                  have HV4 := hid (HV2.out.push o3 b3)
                  go_roundw
                  case measure => simp [intOf]; omega
                  case rel => exact ⟨k + 1, mq + 1, _, _, _, Q ++ [t], by omega, by go_num, by omega, by rw [HMQ.out]; simp, by rw [List.getElem?_append_left (by rw [← HMQ.out]; exact him2)]; exact HVQ.out, HPN.out, HV4.out⟩
                | true =>
                  have HPN := hid (HP.out.in_keep HT.out (by rw [← HAD.out]; exact HPOS.out) (fun _ => (HP.out.qg t).1 HGT2.out.symm))
                  go_wp2_with fail
                  go_roundw
                  case measure => simp [intOf]; omega
                  case rel => exact ⟨k + 1, mq, _, _, gone, Q, by omega, by go_num, him2, HMQ.out, HVQ.out, HPN.out, HV1.out⟩
              · have hb1 : (((a : Int) - 1) == 0) = false := by simp; omega
                have HPN := hid (HP.out.in_keep HT.out (by rw [← HAD.out]; exact HPOS.out) (fun h => absurd (HAD.out.trans h) ha1))
                go_wp2_with fail
                go_roundw
                case measure => simp [intOf]; omega
                case rel => exact ⟨k + 1, mq, _, _, gone, Q, by omega, by go_num, him2, HMQ.out, HVQ.out, HPN.out, HV1.out⟩
            · obtain rfl : L = k := by omega
              go_wp2_with fail
              go_loopw [15, 9] (fun kv q wr => ∃ (k mq : Nat) (ou inn : Nat → Nat) (gone : Nat → Bool) (Q : List Nat), k ≤ Lb ∧ kv = .int .i64 k ∧ i < mq ∧ mq = Q.length ∧ Q[i]? = some v ∧ Peel (natG gs) n ou inn gone Q i v L k ∧ LvAt wT wr gO gI gG n (fun t => (ou t : Int)) (fun t => (inn t : Int)) gone q mq Q) (fun kv _ _ => Lb - (intOf kv).toNat)
              case atStart => exact ⟨0, mq, ou, inn, gone, Q, Nat.zero_le _, rfl, him2, HMQ.out, HVQ.out, HP.out, HV.out⟩
              case round =>
                clear HP HV HMQ HVQ hrow
                obtain ⟨k, mq, ou, inn, gone, Q, hk, rfl, him2, hmq, hv, hP, hV⟩ := hrel
                have hmn : mq ≤ n := by rw [hmq]; exact nodup_len hP.nd hP.rng
                have HMQ := hid hmq
                have HVQ := hid hv
                have HP := hid hP
                have HV := hid hV
                obtain ⟨Aq, cq, rfl, _, _⟩ := own_slice hV.q
                have hrow := (hV.b.cell (show gb < wT.heap.size from hgbT)).trans HROWB.out
                clear hmq hv hP hV
                by_cases hkL : k < Lb
                · obtain ⟨t, ht⟩ : ∃ t, (turn (natG gs) n v)[k]? = some t := ⟨_, List.getElem?_eq_getElem (by rw [← HLBD.out]; exact hkL)⟩
                  obtain ⟨b2, o2, t', rfl, ht', hct⟩ := (HRIB.out.below HV.out.b (Nat.le_refl _)).at_ (show k < (ints (turn (natG gs) n v)).length by rw [List.length_map, ← HLBD.out]; exact hkL)
                  obtain rfl : (t : Int) = t' := by rw [List.getElem?_map, ht] at ht'; exact Option.some.inj ht'
                  have htn : t < n := ((mem_turn v t n).1 (mem_at ht)).1
                  obtain ⟨hpos, h1imp⟩ := HP.out.out_pos HVQ.out ht htn
                  obtain ⟨a, had⟩ : ∃ a, a = ou t := ⟨_, rfl⟩
                  have hal : a ≤ 262144 := by
                    rw [had]
                    have h1 := HP.out.co t htn
                    have h2 := List.countP_le_length (p := notIn (Q.take i)) (l := natG gs t)
                    have h3 := HGL.out t
                    omega
                  rw [← had] at hpos
                  have e1 : wr.cell? ⟨gO, t, none⟩ = some (.int .i64 (a : Int)) := by rw [had]; exact HV.out.o.cell htn
                  have e2 := HV.out.o.frozen t
                  have HV1 := hid (HV.out.setO t ((a : Int) - 1) (fun j => ((upd ou t (ou t - 1) j : Nat) : Int)) (fun j _ => by
                    unfold upd
                    split
                    · rw [← had]; omega
                    · rfl))
                  have HT := hid ht
                  have HAD := hid had
                  have HPOS := hid hpos
                  clear ht ht' had h1imp
                  go_upto_region 34 with (fail)
                  generalize wr.setCell ⟨gO, t, none⟩ (.int .i64 ((a : Int) - 1)) = wa at *
                  have q1 : wa.cell? ⟨gO, t, none⟩ = some (.int .i64 ((a : Int) - 1)) := by
                    rw [HV1.out.o.cell htn, upd_same, ← HAD.out]
                    congr 2
                    have := HPOS.out
                    omega
                  obtain ⟨gt, hgt⟩ : ∃ gt, gt = gone t := ⟨_, rfl⟩
                  have q2 : wa.cell? ⟨gG, t, none⟩ = some (.bool gt) := by rw [hgt]; exact HV1.out.g.cell htn
                  have q3 := HV1.out.g.frozen t
                  have HGT2 := hid hgt
                  clear hgt e1 e2 hrow hct
                  by_cases ha1 : a = 1
                  · have hb1 : (((a : Int) - 1) == 0) = true := by simp; omega
                    cases gt with
                    | false =>
                      have hnq : t ∉ Q := fun hh => by
                        have h1 := (HP.out.qg t).2 hh
                        rw [← HGT2.out] at h1
                        cases h1
                      have HPN := hid (HP.out.out_push HVQ.out HT.out htn (HAD.out.symm.trans ha1) hnq)
                      have HV2 := hid (HV1.out.setG t)
                      have hapl : (mq + 1) * 8 ≤ 140737488355328 := by omega
                      clear hnq
                      go_upto_region 36 with (fail)
                      generalize wa.setCell ⟨gG, t, none⟩ (.bool true) = wb at *
                      have hss := HV2.out.s
                      have HQ3 := hid HV2.out.q
                      have HBB : Hid (Below (gG + 1) wb wb) := Below.refl _ _
                      clear q1 q2 q3 HV1 HV
                      go_wp2_with (at_builtin; refine append1 (w0 := wb) (gG + 1) (by rfl) (.tmp 164) (.tmp 166) 22 3 (.int .i64 0) 8 (by rfl) Tryd.underlying22 Tryd.infoInt (by rfl) (by decide) _ _ _ _ (by rfl) (by rfl) (by rfl) HQ3.out HBB.out hss hapl ?_; intro v3 w3' o3 b3 g3 _)
                      have HV4 := hid (HV2.out.push o3 b3)
                      go_roundw
                      case measure => simp [intOf]; omega
                      case rel => exact ⟨k + 1, mq + 1, _, _, _, Q ++ [t], by omega, by go_num, by omega, by rw [HMQ.out]; simp, by rw [List.getElem?_append_left (by rw [← HMQ.out]; exact him2)]; exact HVQ.out, HPN.out, HV4.out⟩
                    | true =>
                      have HPN := hid (HP.out.out_keep HT.out (by rw [← HAD.out]; exact HPOS.out) (fun _ => (HP.out.qg t).1 HGT2.out.symm))
                      go_wp2_with fail
                      go_roundw
                      case measure => simp [intOf]; omega
                      case rel => exact ⟨k + 1, mq, _, _, gone, Q, by omega, by go_num, him2, HMQ.out, HVQ.out, HPN.out, HV1.out⟩
                  · have hb1 : (((a : Int) - 1) == 0) = false := by simp; omega
                    have HPN := hid (HP.out.out_keep HT.out (by rw [← HAD.out]; exact HPOS.out) (fun h => absurd (HAD.out.trans h) ha1))
                    go_wp2_with fail
                    go_roundw
                    case measure => simp [intOf]; omega
                    case rel => exact ⟨k + 1, mq, _, _, gone, Q, by omega, by go_num, him2, HMQ.out, HVQ.out, HPN.out, HV1.out⟩
                · have HPN := hid (HP.out.next HVQ.out (by rw [← HLD.out]; omega) (by rw [← HLBD.out]; omega) 0)
                  go_wp2_with fail
                  go_roundw
                  case measure => simp [intOf]; omega
                  case rel => exact ⟨i + 1, mq, ou, inn, gone, Q, by omega, by go_num, HMQ.out, HPN.out, HV.out⟩
        · have HEND := hid (fun t ht => HP.out.end_ HGO.out HGN.out (by rw [← HMQ.out]; omega) t ht)
          have HG8 := hid HV.out.g
          have HB8 := hid (below_then HBT.out HV.out.b HBT.out.size)
          have hs8 : w1.heap.size ≤ wr.heap.size := HB8.out.size
          obtain ⟨w8, hw8⟩ : ∃ w8, w8 = wr := ⟨_, rfl⟩
          rw [← hw8] at HG8 HB8 hs8
          have HS0 : Hid (Below w8.heap.size w8 wr) := by show Below _ _ _; rw [hw8]; exact Below.refl _ _
          clear HP HV HMQ hw8
          go_wp2_with fail
          go_loopw [18, 17] (fun iv q wr => ∃ (j mq : Nat), j ≤ n ∧ iv = .int .i64 j ∧ mq = ((List.range j).filter fun t => !gone t).length ∧ mq ≤ j ∧ wr.ownsRow w8.heap.size 3 1 q mq (((List.range j).filter fun t => !gone t).map iV) ∧ Below w8.heap.size w8 wr) (fun iv _ _ => n - (intOf iv).toNat)
          case atStart => exact ⟨0, 0, Nat.zero_le _, rfl, rfl, Nat.le_refl _, World.ownsRow_nil _ _ _ _, HS0.out⟩
          case round =>
            clear HS0
            obtain ⟨j, mq, hj, rfl, hmq, hmj, hq, hb⟩ := hrel
            have HMQ := hid hmq
            have HQ := hid hq
            have HB := hid hb
            obtain ⟨Aq, cq, rfl, _, _⟩ := own_slice hq
            clear hmq hq hb
            by_cases hlt : j < n
            · obtain ⟨gt, hgt⟩ : ∃ gt, gt = gone j := ⟨_, rfl⟩
              have q2 : wr.cell? ⟨gG, j, none⟩ = some (.bool gt) := by rw [hgt]; exact (rowIs_below HG8.out HB.out HG8.out.lt).cell hlt
              have hss : w8.heap.size ≤ wr.heap.size := HB.out.size
              have hapl : (mq + 1) * 8 ≤ 140737488355328 := by omega
              have HGT2 := hid hgt
              have HBB : Hid (Below w8.heap.size wr wr) := Below.refl _ _
              clear hgt
              cases gt with
              | false =>
                go_wp2_with (at_builtin; refine append1 (w0 := wr) w8.heap.size (by rfl) (.tmp 179) (.tmp 181) 22 3 (.int .i64 0) 8 (by rfl) Tryd.underlying22 Tryd.infoInt (by rfl) (by decide) _ _ _ _ (by rfl) (by rfl) (by rfl) HQ.out HBB.out hss hapl ?_; intro v3 w3' o3 b3 g3 _)
                have HB3' := hid (HB.out.trans b3)
                go_roundw
                case measure => simp [intOf]; omega
                case rel =>
                  have e : (List.range (j + 1)).filter (fun t => !gone t) = (List.range j).filter (fun t => !gone t) ++ [j] := by
                    rw [List.range_succ, List.filter_append]; simp [← HGT2.out]
                  refine ⟨j + 1, mq + 1, by omega, by go_num, by rw [e, List.length_append, ← HMQ.out]; rfl, by omega, ?_, HB3'.out⟩
                  rw [e, List.map_append]
                  exact o3
              | true =>
                go_wp2_with fail
                go_roundw
                case measure => simp [intOf]; omega
                case rel =>
                  have e : (List.range (j + 1)).filter (fun t => !gone t) = (List.range j).filter (fun t => !gone t) := by
                    rw [List.range_succ, List.filter_append]; simp [← HGT2.out]
                  exact ⟨j + 1, mq, by omega, by go_num, by rw [e]; exact HMQ.out, by omega, by rw [e]; exact HQ.out, HB.out⟩
            · obtain rfl : n = j := by omega
              have HLIVE : Hid ((List.range n).filter (fun t => !gone t) = liveL (natG gs) n) := liveL_eq fun t ht => by
                have := HEND.out t ht
                cases hgt : gone t <;> simp [hgt] at this ⊢ <;> exact this
              have HBX := hid (below_then HB8.out HB.out hs8)
              have HEC : Hid (ErrCell wr w.heap.size (.int .i64 0) (.slice none 0 0) (.slice none 0 0)) := HCELL.out.below HBX.out
              obtain ⟨c0, f0, c1, f1, c2, f2, r0, r1, r2⟩ := HEC.out.facts (.int .i64 0) (.slice none 0 0) (.slice none 0 0)
              have hxw : w.heap.size < w1.heap.size := (Array.getElem?_eq_some_iff.1 HCELL.out.blk).1
              have HHS := hid hs8
              clear hs8
              go_wp2_with fail
              refine bodyPost_ret (v := .tuple #[.slice Aq mq cq, zeroErr]) (by simp [results, Tryd.results29, go_sem, zeroErr, r0, r1, r2]) rfl ?_
              have e : mq = (liveL (natG gs) n).length := by rw [HMQ.out, HLIVE.out]
              have hq := HQ.out
              rw [HLIVE.out, e] at hq
              refine ⟨Aq, cq, by rw [e], ?_, setErr_below (below_then HBW.out HBX.out HBW.out.size) (Nat.le_refl _)⟩
              have h1 := own_keep hq w.heap.size (own_not_low2 hq (by have := HHS.out; omega)) (w' := setErr wr w.heap.size (.int .i64 0) (.slice none 0 0) (.slice none 0 0)) setErr_same
              exact own_base h1 (Nat.zero_le _)

set_option maxRecDepth 100000 in
theorem r12Live_bad (w : World) (A : Option Addr) (n c : Nat) (gs : List (List Int)) (hr : RII w .i64 A gs) (hn : n = gs.length) (i m : Int) (hb : graphBad gs = some (i, m)) (hm : (m != 0) = true) (hl : ∀ xs ∈ gs, xs.length ≤ 17592186043904) :
    Calls Tryd.prog 29 #[.slice A n c] w (RBadPost i m w) := by
  have HR := hid hr
  have HN := hid hn
  have HBAD := hid hb
  have HL := hid hl
  have HM := hid hm
  have HCELL := hid (ErrCell.new w)
  have HBW := hid (below_new w (.cells #[.int .i64 0, .slice none 0 0, .slice none 0 0] 39))
  clear hr hn hb hl hm
  go_enter Tryd.func29, Tryd.ntmps29
  go_wp2_with fail
  generalize w.alloc (.cells #[.int .i64 0, .slice none 0 0, .slice none 0 0] 39) = w1 at *
  refine (r12Check_calls w1 A n c gs HN.out (HR.out.below HBW.out (Nat.le_refl _)) HL.out).mono ?_
  rintro e w2 ⟨Aa, la, ca, Ab, lb, cb, rfl, herr, hb2⟩
  rw [show graphBad gs = some (i, m) from HBAD.out] at herr ⊢
  have HERR := hid herr
  have HB2 := hid hb2
  clear herr hb2
  go_wp2_with fail
  rw [show errN (some (i, m)) = m from rfl] at HERR ⊢
  rw [show errL (some (i, m)) = [(opGraph, i)] from rfl] at HERR
  have X3 : Hid ((w2.alloc (.cells #[.int .i64 m, .slice Aa la ca, .slice Ab lb cb] 39)).heap[w2.heap.size]? = some (.cells #[.int .i64 m, .slice Aa la ca, .slice Ab lb cb] 39 (0, 0))) := heap_alloc_new w2 _
  have HA3 : Hid (Below w2.heap.size w2 (w2.alloc (.cells #[.int .i64 m, .slice Aa la ca, .slice Ab lb cb] 39))) := below_new w2 _
  refine (errBad_calls _ m _ _).mono ?_
  rintro e w3 ⟨rfl, hb3⟩
  rw [show (m != 0) = true from HM.out]
  have HB3 := hid (below_then HA3.out hb3 HA3.out.size)
  have hc3 := (hb3.block w2.heap.size (Array.getElem?_eq_some_iff.1 X3.out).1).trans X3.out
  obtain ⟨k0, k1, k2⟩ := cells3 hc3
  have HERR3 := hid (HERR.out.below HB3.out)
  have HB13 := hid (below_then HB2.out HB3.out HB2.out.size)
  have HEC : Hid (ErrCell w3 w.heap.size (.int .i64 0) (.slice none 0 0) (.slice none 0 0)) := HCELL.out.below HB13.out
  obtain ⟨c0, f0, c1, f1, c2, f2, r0, r1, r2⟩ := HEC.out.facts (.int .i64 m) (.slice Aa la ca) (.slice Ab lb cb)
  clear hb3 hc3
  go_wp2_with fail
  go_region
  go_wp2_with fail
  refine bodyPost_ret (v := .tuple #[.slice none 0 0, .agg #[.int .i64 m, .slice Aa la ca, .slice Ab lb cb]]) (by simp [results, Tryd.results29, go_sem, r0, r1, r2]) rfl ?_
  exact ⟨_, _, _, _, _, _, rfl, err_end HEC.out HERR3.out, Below.drew (setErr_below (below_then HBW.out HB13.out HBW.out.size) (Nat.le_refl _))⟩
end Go.Proofs.YtapebbejdgeijaaDoor
