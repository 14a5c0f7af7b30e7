/- edenref12.Parts. -/
import Derived.Test.YtapebbejdgeijaaDoorGrH
import Derived.Test.YtapebbejdgeijaaDoorGrI
namespace Go.Proofs.YtapebbejdgeijaaDoor
open Go.RowKit Go.Extern.Stop Go.Stop Go.Extern Go.Deep Tar

/-- Where lists are no graph: no list, and the error. -/
def RBadPost (i n : Int) (w : World) (e : Ending) (w' : World) : Prop :=
  ∃ Aa la ca Ab lb cb, e = .returned (.tuple #[.slice none 0 0, .agg #[.int .i64 n, .slice Aa la ca, .slice Ab lb cb]]) ∧ ErrVal w' 0 (.agg #[.int .i64 n, .slice Aa la ca, .slice Ab lb cb]) n [(opGraph, i)] ∧ Below w.heap.size w w'

def RPartsPost (w : World) (g : Nat → List Nat) (n : Nat) (e : Ending) (w' : World) : Prop :=
  ∃ (gx : Nat) (xs : List Nat), e = .returned (.tuple #[.slice (some ⟨gx, 0, none⟩) n n, zeroErr]) ∧ w'.rowIs gx 3 n (fun j => iV (xs.getD j 0)) ∧ IsParts g n xs ∧ Below w.heap.size w w'

open Classical in
set_option maxRecDepth 100000 in
set_option maxHeartbeats 3200000 in
theorem r12Parts_ok (w : World) (A : Option Addr) (n c : Nat) (gs : List (List Int)) (hr : RII w .i64 A gs) (hn : n = gs.length) (hb : graphBad gs = none) (hl : ∀ xs ∈ gs, xs.length ≤ 17592186043904) :
    Calls Tryd.prog 35 #[.slice A n c] w (RPartsPost w (natG gs) n) := by
  have hg : GrAt w A gs := ⟨hr, GOk.of_bad hb⟩
  have HG := hid hg
  have hn8 : n ≤ 8192 := by rw [hn]; exact (graphOk hb).1
  have hsum : sumG (natG gs) n ≤ 262144 := by rw [hn, sumG_take gs.length (Nat.le_refl _), List.take_length]; exact (graphOk hb).2.1
  have HGN : Hid (∀ x, ∀ t ∈ natG gs x, t < n) := fun x t ht => by rw [hn]; exact natG_lt hg.2 x t ht
  have HGO : Hid (∀ v, n ≤ v → natG gs v = []) := fun v hv => natG_out v (by rw [← hn]; exact hv)
  have HN := hid hn
  have HBAD := hid hb
  have HL := hid hl
  have HSUM := hid hsum
  have HCELL := hid (ErrCell.new w)
  have HBW := hid (below_new w (.cells #[.int .i64 0, .slice none 0 0, .slice none 0 0] 39))
  clear hg hr hn hb hl hsum
  go_enter Tryd.func35, Tryd.ntmps35
  go_wp2_with fail
  generalize w.alloc (.cells #[.int .i64 0, .slice none 0 0, .slice none 0 0] 39) = w1 at *
  refine (r12Check_calls w1 A n c gs HN.out (HG.out.below HBW.out).1 HL.out).mono ?_
  rintro e w2 ⟨Aa, la, ca, Ab, lb, cb, rfl, herr, hb2⟩
  rw [show graphBad gs = none from HBAD.out]
  have HB2 := hid hb2
  clear herr hb2
  go_wp2_with fail
  rw [show errN none = 0 from rfl]
  refine (errBad_calls _ 0 _ _).mono ?_
  rintro e w3 ⟨rfl, hb3⟩
  rw [show ((0 : Int) != 0) = false from rfl]
  have HB3 : Hid (Below w1.heap.size w1 w3) := below_then HB2.out (below_then (below_new w2 _) hb3 (below_new w2 _).size) HB2.out.size
  have hmk := run_make_row' (P := Tryd.prog) 22 3 (.int .i64 0) 8 Tryd.underlying22 Tryd.infoInt rfl .i64 .i64 n (by omega) (by omega)
  have HR0 : Hid ((w3.alloc (.cells (madeCells #[.int .i64 0] n) 3)).rowIs w3.heap.size 3 n (fun j => .int .i64 (if j < 0 then (-1) else 0))) := rowIs_made w3 (.int .i64 0) 3 n
  have HB4 : Hid (Below w1.heap.size w1 (w3.alloc (.cells (madeCells #[.int .i64 0] n) 3))) := below_then HB3.out (below_new w3 _) HB3.out.size
  have hgx : w1.heap.size ≤ w3.heap.size := HB3.out.size
  clear HB2 hb3
  go_wp2_with fail
  generalize w3.alloc (.cells (madeCells #[.int .i64 0] n) 3) = w4 at *
  generalize w3.heap.size = gx at *
  clear hmk HB3
  go_loopw [6] (fun i wr => ∃ j : Nat, j ≤ n ∧ i = .int .i64 j ∧ wr.rowIs gx 3 n (fun k => .int .i64 (if k < j then (-1) else 0)) ∧ Below w1.heap.size w1 wr) (fun i _ => n - (intOf i).toNat)
  case atStart => exact ⟨0, Nat.zero_le _, rfl, HR0.out, HB4.out⟩
  case round =>
    clear HR0 HB4
    obtain ⟨j, hj, rfl, hr, hb⟩ := hrel
    have HR := hid hr
    have HBX := hid hb
    clear hr hb
    by_cases hlt : j < n
    · have hcell := HR.out.cell hlt
      have hfz := HR.out.frozen j
      go_wp2_with fail
      go_roundw
      case measure => simp [intOf]; omega
      case rel =>
        refine ⟨j + 1, by omega, by go_num, rowIs_upd HR.out j _ fun k _ => ?_, HBX.out.setCell hgx _⟩
        by_cases e : k = j
        · subst e; rw [if_pos (by omega), if_pos rfl]
        · rw [if_neg e]
          congr 1
          by_cases e2 : k < j
          · rw [if_pos e2, if_pos (by omega)]
          · rw [if_neg e2, if_neg (by omega)]
    · obtain rfl : n = j := by omega
      have HR2 : Hid (wr.rowIs gx 3 n (fun _ => .int .i64 (-1))) := HR.out.congr fun k hk => by rw [if_pos hk]
      clear HR
      have HGW := hid ((HG.out.below HBW.out).below HBX.out)
      go_wp2_with fail
      refine (r12Turned_calls wr A n c gs HGW.out HN.out HSUM.out).mono ?_
      rintro e w5 ⟨rv, rfl, hrows, hb5⟩
      have HROWS := hid hrows
      have HB5 := hid (below_then HBX.out hb5 HBX.out.size)
      have HR5 := hid (rowIs_below HR2.out hb5 HR2.out.lt)
      have hgb : gx < wr.heap.size := HR2.out.lt
      generalize wr.heap.size = gb at *
      clear hrows hb5 HR2 HBX HGW
      go_wp2_with fail
      go_loopw [9, 8] (fun iv cv wr => ∃ (j cnt : Nat) (o : Nat → Int), j ≤ n ∧ iv = .int .i64 j ∧ cv = .int .i64 cnt ∧ cnt = cntNew (Both (natG gs)) j ∧ MarkNum (natG gs) j o ∧ wr.rowIs gx 3 n (fun k => .int .i64 (o k)) ∧ RowsAt wr (gb + 1) gb n (turn (natG gs) n) rv ∧ Below w1.heap.size w1 wr) (fun iv _ _ => n - (intOf iv).toNat)
      case atStart => exact ⟨0, 0, fun _ => -1, Nat.zero_le _, rfl, rfl, rfl, MarkNum.start, HR5.out, HROWS.out, HB5.out⟩
      case round =>
        clear HROWS HB5 HR5
        obtain ⟨j, cnt, o, hj, rfl, rfl, hcnt, hmk, hr, hrows, hb⟩ := hrel
        have HCNT := hid hcnt
        have hcl : cnt ≤ j := by rw [hcnt]; exact cntNew_le _ _
        have HMK := hid hmk
        have HR := hid hr
        have HROWS := hid hrows
        have HB := hid hb
        clear hcnt hmk hr hrows hb
        by_cases hlt : j < n
        · obtain ⟨oj, hoj⟩ : ∃ oj, oj = o j := ⟨_, rfl⟩
          have hcell : wr.cell? ⟨gx, j, none⟩ = some (.int .i64 oj) := by rw [hoj]; exact HR.out.cell hlt
          have HOJ := hid hoj
          clear hoj
          by_cases hpos : 0 ≤ oj
          · have HSK := hid (HMK.out.skip (m := j) (by rw [← HOJ.out]; exact hpos))
            go_wp2_with fail
            go_roundw
            case measure => simp [intOf]; omega
            case rel => exact ⟨j + 1, cnt, o, by omega, by go_num, rfl, by rw [HSK.out.2]; exact HCNT.out, HSK.out.1, HR.out, HROWS.out, HB.out⟩
          · go_wp2_with fail
            have HA1 : Hid (Below wr.heap.size wr (wr.alloc (.cells #[.int .i64 j] 3))) := below_new wr _
            have HGA := hid (((HG.out.below HBW.out).below HB.out).below HA1.out)
            refine (r12Far_calls _ A n c gs HGA.out HN.out wr.heap.size j hlt (cell_one _ _ _)).mono ?_
            rintro e w6 ⟨ga, fa, Qa, ia, rfl, hra, hfa, hia, hb6, hga, hla⟩
            have HB6 := hid (below_then HA1.out hb6 HA1.out.size)
            have hga2 : wr.heap.size ≤ ga := Nat.le_trans HA1.out.size hga
            have HRA := hid hra
            have HFA := hid (fun t => hfa.reach hia t)
            clear hra hfa hia hb6 hga HGA HA1 hcell
            go_wp2_with fail
            have HA2 : Hid (Below w6.heap.size w6 (w6.alloc (.cells #[.int .i64 j] 3))) := below_new w6 _
            have HGB := hid (((HROWS.out.below HB6.out).below HA2.out).turned (by omega) HSUM.out)
            refine (r12Far_calls _ (some ⟨gb, 0, none⟩) n n (listG n (turn (natG gs) n)) HGB.out (listG_length _ _).symm w6.heap.size j hlt (cell_one _ _ _)).mono ?_
            rintro e w7 ⟨gbb, fb, Qb, ib, rfl, hrb, hfb, hib, hb7, hgb7, hlb⟩
            rw [natG_turn HGN.out] at hfb
            have HB7 := hid (below_then HA2.out hb7 HA2.out.size)
            have HRB := hid hrb
            have HFB := hid (fun t => hfb.reach hib t)
            have HRA7 := hid (rowIs_below HRA.out HB7.out HRA.out.lt)
            have HB67 := hid (below_then HB6.out HB7.out HB6.out.size)
            have HR7 := hid (rowIs_below HR.out HB67.out HR.out.lt)
            have HROWS7 := hid (HROWS.out.below HB67.out)
            have HBX7 := hid (below_then HB.out HB67.out HB.out.size)
            have hgalt : ga ≠ gx := by have := HR.out.lt; omega
            have hgblt : gbb ≠ gx := by
              have h1 := HR.out.lt
              have h2 := HB6.out.size
              have h3 := HA2.out.size
              omega
            clear hrb hfb hib hb7 hgb7 HGB HA2 HB6 HB7 HB67 HRA HR HROWS HB
            go_wp2_with fail
            have HBOTH : Hid (∀ t, (0 ≤ fa t ∧ 0 ≤ fb t) ↔ Both (natG gs) j t) := fun t => by
              rw [HFA.out t, HFB.out t]
              constructor
              · rintro ⟨⟨u, hu, h1⟩, u', hu', h2⟩
                rw [List.mem_singleton] at hu hu'
                subst hu
                subst hu'
                exact ⟨h1, (turn_reach HGO.out).1 h2⟩
              · rintro ⟨h1, h2⟩
                exact ⟨⟨j, by simp, h1⟩, j, by simp, (turn_reach HGO.out).2 h2⟩
            clear HFA HFB
            go_loopw [12] (fun kv wr => ∃ k : Nat, k ≤ n ∧ kv = .int .i64 k ∧ wr.rowIs gx 3 n (fun t => .int .i64 (if t < k ∧ 0 ≤ fa t ∧ 0 ≤ fb t then (cnt : Int) else o t)) ∧ wr.rowIs ga 3 n (fun t => .int .i64 (fa t)) ∧ wr.rowIs gbb 3 n (fun t => .int .i64 (fb t)) ∧ RowsAt wr (gb + 1) gb n (turn (natG gs) n) rv ∧ Below w1.heap.size w1 wr) (fun kv _ => n - (intOf kv).toNat)
            case atStart => exact ⟨0, Nat.zero_le _, rfl, HR7.out.congr fun t _ => by rw [if_neg (fun hh => Nat.not_lt_zero _ hh.1)], HRA7.out, HRB.out, HROWS7.out, HBX7.out⟩
            case round =>
              clear HR7 HRA7 HRB HROWS7 HBX7
              obtain ⟨k, hk, rfl, hr, hra, hrb, hrows, hb⟩ := hrel
              have HR := hid hr
              have HRA := hid hra
              have HRB := hid hrb
              have HROWS := hid hrows
              have HB := hid hb
              clear hr hra hrb hrows hb
              by_cases hkn : k < n
              · obtain ⟨ak, hak⟩ : ∃ ak, ak = fa k := ⟨_, rfl⟩
                obtain ⟨bk, hbk⟩ : ∃ bk, bk = fb k := ⟨_, rfl⟩
                have h1 : wr.cell? ⟨ga, k, none⟩ = some (.int .i64 ak) := by rw [hak]; exact HRA.out.cell hkn
                have h2 : wr.cell? ⟨gbb, k, none⟩ = some (.int .i64 bk) := by rw [hbk]; exact HRB.out.cell hkn
                have h3 := HR.out.cell hkn
                have h4 := HR.out.frozen k
                generalize (if k < k ∧ 0 ≤ fa k ∧ 0 ≤ fb k then (cnt : Int) else o k) = old at h3
                have HAK := hid hak
                have HBK := hid hbk
                clear hak hbk
                by_cases ha0 : 0 ≤ ak
                · by_cases hb0 : 0 ≤ bk
                  · go_wp2_with fail
                    go_roundw
                    case measure => simp [intOf]; omega
                    case rel =>
                      refine ⟨k + 1, by omega, by go_num, rowIs_upd HR.out k _ fun t _ => ?_, rowIs_other HRA.out hgalt, rowIs_other HRB.out hgblt, HROWS.out.other hgb, HB.out.setCell hgx _⟩
                      by_cases e : t = k
                      · subst e
                        rw [if_pos ⟨by omega, by rw [← HAK.out]; exact ha0, by rw [← HBK.out]; exact hb0⟩, if_pos rfl]
                      · rw [if_neg e]
                        congr 1
                        by_cases e2 : t < k ∧ 0 ≤ fa t ∧ 0 ≤ fb t
                        · rw [if_pos e2, if_pos ⟨by omega, e2.2⟩]
                        · rw [if_neg e2, if_neg fun hh => e2 ⟨by omega, hh.2⟩]
                  · go_wp2_with fail
                    go_roundw
                    case measure => simp [intOf]; omega
                    case rel =>
                      refine ⟨k + 1, by omega, by go_num, HR.out.congr fun t _ => ?_, HRA.out, HRB.out, HROWS.out, HB.out⟩
                      congr 1
                      by_cases e : t = k
                      · subst e
                        rw [if_neg fun hh => by have := hh.1; omega, if_neg fun hh => by have := HBK.out; have := hh.2.2; omega]
                      · by_cases e2 : t < k ∧ 0 ≤ fa t ∧ 0 ≤ fb t
                        · rw [if_pos e2, if_pos ⟨by omega, e2.2⟩]
                        · rw [if_neg e2, if_neg fun hh => e2 ⟨by omega, hh.2⟩]
                · go_wp2_with fail
                  go_roundw
                  case measure => simp [intOf]; omega
                  case rel =>
                    refine ⟨k + 1, by omega, by go_num, HR.out.congr fun t _ => ?_, HRA.out, HRB.out, HROWS.out, HB.out⟩
                    congr 1
                    by_cases e : t = k
                    · subst e
                      rw [if_neg fun hh => by have := hh.1; omega, if_neg fun hh => by have := HAK.out; have := hh.2.1; omega]
                    · by_cases e2 : t < k ∧ 0 ≤ fa t ∧ 0 ≤ fb t
                      · rw [if_pos e2, if_pos ⟨by omega, e2.2⟩]
                      · rw [if_neg e2, if_neg fun hh => e2 ⟨by omega, hh.2⟩]
              · obtain rfl : n = k := by omega
                have HNX := hid (HMK.out.mark (m := j) (by rw [← HOJ.out]; omega) (o' := fun t => if Both (natG gs) j t then (cnt : Int) else o t) (fun t ht => by rw [if_pos ht, HCNT.out]) (fun t ht => by rw [if_neg ht]))
                have HR8 : Hid (wr.rowIs gx 3 n (fun t => .int .i64 (if Both (natG gs) j t then (cnt : Int) else o t))) := HR.out.congr fun t ht => by
                  congr 1
                  by_cases e : Both (natG gs) j t
                  · rw [if_pos e, if_pos ⟨ht, (HBOTH.out t).2 e⟩]
                  · rw [if_neg e, if_neg fun hh => e ((HBOTH.out t).1 hh.2)]
                go_wp2_with fail
                go_roundw
                case measure => simp [intOf]; omega
                case rel => exact ⟨j + 1, cnt + 1, _, by omega, by go_num, by go_num, by rw [HNX.out.2, HCNT.out], HNX.out.1, HR8.out, HROWS.out, HB.out⟩
        · obtain rfl : n = j := by omega
          have HEC : Hid (ErrCell wr w.heap.size (.int .i64 0) (.slice none 0 0) (.slice none 0 0)) := HCELL.out.below HB.out
          obtain ⟨c0, f0, c1, f1, c2, f2, r0, r1, r2⟩ := HEC.out.facts (.int .i64 0) (.slice none 0 0) (.slice none 0 0)
          have hxw : w.heap.size < w1.heap.size := (Array.getElem?_eq_some_iff.1 HCELL.out.blk).1
          go_wp2_with fail
          refine bodyPost_ret (v := .tuple #[.slice (some ⟨gx, 0, none⟩) n n, zeroErr]) (by simp [results, Tryd.results35, go_sem, zeroErr, r0, r1, r2]) rfl ?_
          refine ⟨gx, (List.range n).map fun t => (o t).toNat, rfl, ?_, ⟨by simp, fun v x hx => ?_⟩, setErr_below (below_then HBW.out HB.out HBW.out.size) (Nat.le_refl _)⟩
          · refine (HR.out.of_block (setErr_same gx (by omega))).congr fun t ht => ?_
            obtain ⟨y, hy, _⟩ := HMK.out.num ht
            have e : ((List.range n).map fun t => (o t).toNat).getD t 0 = y := by
              rw [List.getD_eq_getElem?_getD, List.getElem?_map, List.getElem?_range ht]
              show (o t).toNat = y
              rw [hy]; simp
            show Value.int .i64 (o t) = iV (((List.range n).map fun t => (o t).toNat).getD t 0)
            rw [e, hy]
          · have hv := (List.getElem?_eq_some_iff.1 hx).1
            simp at hv
            rw [List.getElem?_map, List.getElem?_range hv] at hx
            obtain rfl := Option.some.inj hx
            obtain ⟨y, hy, hy2⟩ := HMK.out.num hv
            have e : (o v).toNat = y := by rw [hy]; simp
            show NumOf _ v (o v).toNat
            rw [e]
            exact hy2

set_option maxRecDepth 100000 in
theorem r12Parts_bad (w : World) (A : Option Addr) (n c : Nat) (gs : List (List Int)) (hr : RII w .i64 A gs) (hn : n = gs.length) (i m : Int) (hb : graphBad gs = some (i, m)) (hm : (m != 0) = true) (hl : ∀ xs ∈ gs, xs.length ≤ 17592186043904) :
    Calls Tryd.prog 35 #[.slice A n c] w (RBadPost i m w) := by
  have HR := hid hr
  have HN := hid hn
  have HBAD := hid hb
  have HL := hid hl
  have HM := hid hm
  have HCELL := hid (ErrCell.new w)
  have HBW := hid (below_new w (.cells #[.int .i64 0, .slice none 0 0, .slice none 0 0] 39))
  clear hr hn hb hl hm
  go_enter Tryd.func35, Tryd.ntmps35
  go_wp2_with fail
  generalize w.alloc (.cells #[.int .i64 0, .slice none 0 0, .slice none 0 0] 39) = w1 at *
  refine (r12Check_calls w1 A n c gs HN.out (HR.out.below HBW.out (Nat.le_refl _)) HL.out).mono ?_
  rintro e w2 ⟨Aa, la, ca, Ab, lb, cb, rfl, herr, hb2⟩
  rw [show graphBad gs = some (i, m) from HBAD.out] at herr ⊢
  have HERR := hid herr
  have HB2 := hid hb2
  clear herr hb2
  go_wp2_with fail
  rw [show errN (some (i, m)) = m from rfl] at HERR ⊢
  rw [show errL (some (i, m)) = [(opGraph, i)] from rfl] at HERR
  have X3 : Hid ((w2.alloc (.cells #[.int .i64 m, .slice Aa la ca, .slice Ab lb cb] 39)).heap[w2.heap.size]? = some (.cells #[.int .i64 m, .slice Aa la ca, .slice Ab lb cb] 39 (0, 0))) := heap_alloc_new w2 _
  have HA3 : Hid (Below w2.heap.size w2 (w2.alloc (.cells #[.int .i64 m, .slice Aa la ca, .slice Ab lb cb] 39))) := below_new w2 _
  refine (errBad_calls _ m _ _).mono ?_
  rintro e w3 ⟨rfl, hb3⟩
  rw [show (m != 0) = true from HM.out]
  have HB3 := hid (below_then HA3.out hb3 HA3.out.size)
  have hc3 := (hb3.block w2.heap.size (Array.getElem?_eq_some_iff.1 X3.out).1).trans X3.out
  obtain ⟨k0, k1, k2⟩ := cells3 hc3
  have HERR3 := hid (HERR.out.below HB3.out)
  have HB13 := hid (below_then HB2.out HB3.out HB2.out.size)
  have HEC : Hid (ErrCell w3 w.heap.size (.int .i64 0) (.slice none 0 0) (.slice none 0 0)) := HCELL.out.below HB13.out
  obtain ⟨c0, f0, c1, f1, c2, f2, r0, r1, r2⟩ := HEC.out.facts (.int .i64 m) (.slice Aa la ca) (.slice Ab lb cb)
  clear hb3 hc3
  go_wp2_with fail
  go_region
  go_wp2_with fail
  refine bodyPost_ret (v := .tuple #[.slice none 0 0, .agg #[.int .i64 m, .slice Aa la ca, .slice Ab lb cb]]) (by simp [results, Tryd.results35, go_sem, r0, r1, r2]) rfl ?_
  exact ⟨_, _, _, _, _, _, rfl, err_end HEC.out HERR3.out, Below.drew (setErr_below (below_then HBW.out HB13.out HBW.out.size) (Nat.le_refl _))⟩
end Go.Proofs.YtapebbejdgeijaaDoor
