/- graph.first. -/
import Derived.Test.YtapebbejdgeijaaDoorGrN
import Derived.Test.YtapebbejdgeijaaDoorGrF
namespace Go.Proofs.YtapebbejdgeijaaDoor
open Go.RowKit Go.Extern.Stop Go.Stop Go.Extern Go.Deep Tar

/-- The search in memory: whence each vertex came, the queue. -/
structure FsAt (w0 wr : World) (gc base n : Nat) (came : Nat → Int) (Q : List Nat) (q : Value) : Prop where
  c : wr.rowIs gc 3 n (fun t => .int .i64 (came t))
  q : wr.ownsRow base 3 1 q Q.length (Q.map iV)
  l : w0.heap.size ≤ gc ∧ gc < base ∧ base ≤ wr.heap.size
  b : Below w0.heap.size w0 wr
theorem FsAt.later {w0 wr w' : World} {gc base n : Nat} {came : Nat → Int} {Q : List Nat} {q : Value} (h : FsAt w0 wr gc base n came Q q) (hb : Below wr.heap.size wr w') : FsAt w0 w' gc base n came Q q :=
  ⟨rowIs_below h.c hb h.c.lt, own_below h.q hb (Nat.le_refl _), ⟨h.l.1, h.l.2.1, Nat.le_trans h.l.2.2 hb.size⟩, below_then h.b hb h.b.size⟩
theorem FsAt.mark {w0 wr : World} {gc base n : Nat} {came : Nat → Int} {Q : List Nat} {q : Value} (h : FsAt w0 wr gc base n came Q q) (t v : Nat) : FsAt w0 (wr.setCell ⟨gc, t, none⟩ (.int .i64 v)) gc base n (upd came t v) Q q :=
  ⟨rowIs_upd (f' := fun j => .int .i64 (upd came t (v : Int) j)) h.c t _ (fun j _ => by show Value.int .i64 (upd came t (v : Int) j) = _; unfold upd; split <;> rfl),
    own_keep h.q gc (own_not_low2 h.q h.l.2.1) (fun i hi => Below.heap_setCell _ _ _ _ (show i ≠ gc from hi)), ⟨h.l.1, h.l.2.1, by simp; exact h.l.2.2⟩, h.b.setCell (show w0.heap.size ≤ gc from h.l.1) _⟩
theorem FsAt.push {w0 wr w1 : World} {gc base n : Nat} {came : Nat → Int} {Q : List Nat} {q v1 : Value} {t : Nat} (h : FsAt w0 wr gc base n came Q q) (ho : w1.ownsRow base 3 1 v1 (Q.length + 1) (Q.map iV ++ [iV t])) (hb : Below base wr w1) : FsAt w0 w1 gc base n came (Q ++ [t]) v1 :=
  ⟨rowIs_below h.c hb h.l.2.1, by rw [List.length_append, List.map_append]; exact ho, ⟨h.l.1, h.l.2.1, Nat.le_trans h.l.2.2 hb.size⟩, h.b.trans (hb.mono (by have := h.l; omega))⟩

theorem idxOf_at {Q : List Nat} (hn : Q.Nodup) {x v : Nat} (h : Q[x]? = some v) : Q.idxOf v = x := by
  obtain ⟨hx, rfl⟩ := List.getElem?_eq_some_iff.1 h
  exact hn.idxOf_getElem x hx

def FirstPost (w : World) (g : Nat → List Nat) (a b : Nat) (e : Ending) (w' : World) : Prop :=
  ∃ v, e = .returned v ∧ Below w.heap.size w w' ∧ ((¬ Tar.Reach (Arr g) a b ∧ v = .slice none 0 0) ∨ ∃ l, Lex g b a l ∧ l.length ≤ 8193 ∧ w'.ownsRow w.heap.size 3 1 v l.length (l.map iV))

set_option maxRecDepth 100000 in
set_option maxHeartbeats 1600000 in
theorem gFirst_calls (w : World) (A : Option Addr) (n c : Nat) (gs : List (List Int)) (hg : GrAt w A gs) (hn : n = gs.length) (a b : Nat) (ha : a < n) (hbn : b < n) :
    Calls Tryd.prog 77 #[.slice A n c, .int .i64 a, .int .i64 b] w (FirstPost w (natG gs) a b) := by
  have HG := hid hg
  have hn8 : n ≤ 8193 := by rw [hn]; exact hg.2.1
  have HGN : Hid (∀ x, ∀ t ∈ natG gs x, t < n) := fun x t ht => by rw [hn]; exact natG_lt hg.2 x t ht
  have HGL : Hid (∀ t, (natG gs t).length ≤ 262144) := fun t => natG_len hg.2 t
  have HN := hid hn
  clear hg hn
  go_enter Tryd.func77, Tryd.ntmps77
  go_wp2_with fail
  have hbn0 := below_new w (.cells #[.int .i64 (-1)] 3)
  refine (repeat_calls (w.alloc (.cells #[.int .i64 (-1)] 3)) w.heap.size (-1) n (by omega) (heap_alloc_new w _)).mono ?_
  rintro e w1 ⟨rfl, hrq, hbq⟩
  have hrow := rowIs_of_intBlk hrq
  have HB1 := hid (below_then hbn0 hbq (by simp))
  obtain ⟨gc, hgc⟩ : ∃ gc, gc = (w.alloc (.cells #[.int .i64 (-1)] 3)).heap.size := ⟨_, rfl⟩
  rw [← hgc] at hrow ⊢
  have hg1 : w.heap.size ≤ gc := by rw [hgc]; simp
  have HR1 := hid hrow
  have hfz := hrow.frozen a
  have hcl := hrow.cell ha
  have hglt : gc < w1.heap.size := hrow.lt
  clear hrq hbq hbn0 hrow hgc
  have hq0 : (w1.setCell ⟨gc, a, none⟩ (.int .i64 a)).heap.size = w1.heap.size := by simp
  have HFS : Hid (FsAt w ((w1.setCell ⟨gc, a, none⟩ (.int .i64 a)).alloc (.cells #[.int .i64 a] 3)) gc w1.heap.size n (upd (fun _ => -1) a a) [a] (.slice (some ⟨w1.heap.size, 0, none⟩) 1 1)) := by
    have hnew := below_new (w1.setCell ⟨gc, a, none⟩ (.int .i64 a)) (.cells #[.int .i64 a] 3)
    have hrw : (w1.setCell ⟨gc, a, none⟩ (.int .i64 a)).rowIs gc 3 n (fun t => .int .i64 (upd (fun _ => (-1 : Int)) a (a : Int) t)) := rowIs_upd HR1.out a _ (fun j _ => by show Value.int .i64 (upd (fun _ => (-1 : Int)) a (a : Int) j) = _; unfold upd; split <;> rfl)
    refine ⟨rowIs_below hrw hnew hrw.lt, ?_, ⟨hg1, hglt, by simp⟩, below_then (HB1.out.setCell (show w.heap.size ≤ gc from hg1) _) hnew (by simp; exact HB1.out.size)⟩
    have h := own_lit (w := w1.setCell ⟨gc, a, none⟩ (.int .i64 a)) [.int .i64 a] 3 1 rfl (by omega)
    rw [hq0] at h
    exact h
  go_wp2_with fail
  simp only [hq0] at *
  generalize ((w1.setCell ⟨gc, a, none⟩ (.int .i64 a)).alloc (.cells #[.int .i64 a] 3)) = w2 at *
  generalize w1.heap.size = base at *
  clear HR1 HB1 hfz hcl hq0
  go_loopw [9, 8] (fun iv q wr => ∃ (i : Nat) (came : Nat → Int) (Q : List Nat) (pi : Nat → Nat), iv = .int .i64 i ∧ i ≤ Q.length ∧ FsAt w wr gc base n came Q q ∧ Bfs (svG (natG gs)) n a came Q pi i 0) (fun iv _ _ => n + 1 - (intOf iv).toNat)
  case atStart => exact ⟨0, _, _, _, rfl, Nat.zero_le _, HFS.out, Bfs.start ha⟩
  case round =>
    clear HFS
    obtain ⟨i, came, Q, pi, rfl, hiQ, hfs, hbf⟩ := hrel
    have hQn : Q.length ≤ n := nodup_len hbf.nd hbf.rng
    have HF := hid hfs
    have HBF := hid hbf
    obtain ⟨m, hm⟩ : ∃ m, m = Q.length := ⟨_, rfl⟩
    have hq := hfs.q
    rw [← hm] at hq hiQ hQn
    obtain ⟨A8, c8, rfl, hc8, hm8⟩ := own_slice hq
    obtain ⟨cb, hcb⟩ : ∃ cb, cb = came b := ⟨_, rfl⟩
    have hcell : wr.cell? ⟨gc, b, none⟩ = some (.int .i64 cb) := by rw [hcb]; exact hfs.c.cell hbn
    have HM := hid hm
    have HCB := hid hcb
    have HQ := hid hq
    clear hfs hbf hm hcb hq
    have hcn : -1 ≤ cb := by rw [show cb = came b from HCB.out]; exact (HBF.out.lo b).1
    by_cases him : i < m
    · by_cases hneg : cb < 0
      · obtain ⟨g8, rfl, hg8, hcap8⟩ := own_idx HQ.out (by omega)
        obtain ⟨v, hv⟩ : ∃ v, Q[i]? = some v := ⟨_, List.getElem?_eq_getElem (by rw [← HM.out]; exact him)⟩
        have hvc := HQ.out.cellAt i (by omega)
        rw [List.getElem?_map, hv, Option.map_some] at hvc
        have hvn : v < n := HBF.out.rng v (List.mem_of_getElem? hv)
        have HV := hid hv
        have HGR := hid (HG.out.below HF.out.b)
        obtain ⟨ba, oa, A', c', rfl, hrw, hcap, hri⟩ := HGR.out.row (show v < gs.length by rw [← HN.out]; exact hvn)
        have hL := HGL.out v
        obtain ⟨L, hLd⟩ : ∃ L, L = (natG gs v).length := ⟨_, rfl⟩
        rw [← hLd] at hrw hcap hL
        have HLD := hid hLd
        have HRI := hid hri
        clear hv hri hLd
        go_wp2_with fail
        refine (values_calls _ _ _ _).mono ?_
        rintro e w' ⟨rfl, rfl⟩
        go_wp2_with fail
        refine (sortRow_calls wr A' L c' (natG gs v) HLD.out hL HRI.out).mono ?_
        rintro e w5 ⟨vs, rfl, hos, hb5, hob⟩
        rw [← svG_ints] at hos
        have HF5 := hid (HF.out.later hb5)
        have HOS := hid hos
        have hne5 : vs.ownBlock = none ∨ vs.ownBlock ≠ (Value.slice (some ⟨g8, 0, none⟩) m c8).ownBlock := by
          cases hvb : vs.ownBlock with
          | none => exact .inl rfl
          | some k =>
            have h1 := hob k hvb
            have h2 := (HQ.out.lt g8 rfl).2
            exact .inr fun e => by have e2 : k = g8 := Option.some.inj e; omega
        have HNE := hid hne5
        obtain ⟨A3, c3, rfl, hc3, hm3⟩ := own_slice hos
        have hb2 : base ≤ wr.heap.size := HF.out.l.2.2
        generalize wr.heap.size = base2 at *
        have HSV : Hid ((svG (natG gs) v).length = L) := by rw [show L = _ from HLD.out]; exact svG_len _ _
        clear hos hb5 hob hne5 HRI hrw hvc hcell
        go_wp2_with fail
        go_loopw [49, 8] (fun kv q wr => ∃ (k : Nat) (came' : Nat → Int) (Q' : List Nat) (pi' : Nat → Nat), kv = .int .i64 k ∧ k ≤ L ∧ FsAt w wr gc base n came' Q' q ∧ Bfs (svG (natG gs)) n a came' Q' pi' i k ∧ wr.ownsRow base2 3 1 (.slice A3 L c3) L ((ints (svG (natG gs) v)).map (Value.int .i64)) ∧ ((Value.slice A3 L c3).ownBlock = none ∨ (Value.slice A3 L c3).ownBlock ≠ q.ownBlock) ∧ Q'[i]? = some v) (fun kv _ _ => L - (intOf kv).toNat)
        case atStart => exact ⟨0, came, Q, pi, rfl, Nat.zero_le _, HF5.out, HBF.out, HOS.out, HNE.out, HV.out⟩
        case round =>
          clear HF5 HOS HNE HQ HF HBF HCB HM HV hneg hcn
          obtain ⟨k, came', Q', pi', rfl, hkL, hfs, hbf, hos, hne, hv⟩ := hrel
          have HF := hid hfs
          have HBF := hid hbf
          have HOS := hid hos
          have HNE := hid hne
          have HV := hid hv
          obtain ⟨m', hm'⟩ : ∃ m', m' = Q'.length := ⟨_, rfl⟩
          have hQn' : m' ≤ n := by rw [hm']; exact nodup_len hbf.nd hbf.rng
          have hq := hfs.q
          rw [← hm'] at hq
          obtain ⟨A9, c9, rfl, hc9, hm9⟩ := own_slice hq
          have HM' := hid hm'
          have HQ := hid hq
          have hi' : i < m' := by rw [hm']; exact (List.getElem?_eq_some_iff.1 hv).1
          clear hfs hbf hos hne hv hm' hq
          by_cases hkl : k < L
          · obtain ⟨g3, rfl, hg3, hcap3⟩ := own_idx HOS.out (by omega)
            obtain ⟨t, ht⟩ : ∃ t, (svG (natG gs) v)[k]? = some t := ⟨_, List.getElem?_eq_getElem (by rw [show _ = L from HSV.out]; exact hkl)⟩
            have htc := HOS.out.cellAt k (by omega)
            rw [List.getElem?_map, List.getElem?_map, ht, Option.map_some, Option.map_some] at htc
            have htn : t < n := HGN.out v t (svG_mem.1 (List.mem_of_getElem? ht))
            obtain ⟨ct, hct⟩ : ∃ ct, ct = came' t := ⟨_, rfl⟩
            have hcc : wr.cell? ⟨gc, t, none⟩ = some (.int .i64 ct) := by rw [hct]; exact HF.out.c.cell htn
            have hfz := HF.out.c.frozen t
            have HT := hid ht
            have HCT := hid hct
            clear ht hct
            by_cases hctn : ct < 0
            · have HPU := hid (HBF.out.push (fun x => svG_srt _ x) HV.out HT.out htn (by rw [← HCT.out]; exact hctn))
              have HMK := hid (HF.out.mark t v)
              have HOS2 : Hid ((wr.setCell ⟨gc, t, none⟩ (.int .i64 v)).ownsRow base2 3 1 (.slice (some ⟨g3, 0, none⟩) L c3) L ((ints (svG (natG gs) v)).map (Value.int .i64))) := own_keep HOS.out gc (own_not_low2 HOS.out (by have := HF.out.l; omega)) (fun i hi => Below.heap_setCell _ _ _ _ (show i ≠ gc from hi))
              go_upto_region 13 with (fail)
              generalize wr.setCell ⟨gc, t, none⟩ (.int .i64 v) = ws at *
              have HQ2 : Hid (ws.ownsRow base 3 1 (.slice A9 m' c9) m' (Q'.map iV)) := by
                have h := HMK.out.q
                rw [← HM'.out] at h
                exact h
              have hbs : base ≤ ws.heap.size := HMK.out.l.2.2
              have HBW : Hid (Below base ws ws) := Below.refl _ _
              have hapl : (m' + 1) * 8 ≤ 140737488355328 := by omega
              clear HQ HF HOS HBF hcc hfz htc
              go_wp2_with (at_builtin; refine append1 (w0 := ws) base (by rfl) (.tmp 62) (.tmp 64) 22 3 (.int .i64 0) 8 (by rfl) Tryd.underlying22 Tryd.infoInt (by rfl) (by decide) _ _ _ _ (by rfl) (by rfl) (by rfl) HQ2.out HBW.out hbs hapl ?_; intro v3 w3 o3 b3 gr3 hat3)
              go_roundw
              case measure => simp [intOf]; omega
              case rel =>
                refine ⟨k + 1, _, _, _, by go_num, by omega, HMK.out.push (by rw [← HM'.out]; exact o3) b3, HPU.out, HOS2.out.kept gr3 HNE.out, ?_, ?_⟩
                · rcases hat3 with h | ⟨b', h, hb'⟩
                  · rw [h]; exact HNE.out
                  · refine .inr fun e => ?_
                    have h1 := (HOS2.out.lt g3 rfl).2
                    rw [h] at e
                    have e2 : g3 = b' := Option.some.inj e
                    omega
                · rw [List.getElem?_append_left (by rw [← HM'.out]; exact hi')]
                  exact HV.out
            · have HSK := hid (HBF.out.skip HV.out HT.out (by rw [← HCT.out]; exact hctn))
              go_wp2_with fail
              go_roundw
              case measure => simp [intOf]; omega
              case rel => exact ⟨k + 1, _, _, _, by go_num, by omega, HF.out, HSK.out, HOS.out, HNE.out, HV.out⟩
          · obtain rfl : L = k := by omega
            have HNX := hid (HBF.out.next HV.out (by rw [show _ = L from HSV.out]; exact Nat.le_refl _))
            go_wp2_with fail
            go_roundw
            case measure => simp [intOf]; omega
            case rel => exact ⟨i + 1, _, _, _, by go_num, by rw [← HM'.out]; omega, HF.out, HNX.out⟩
      · have HBEND := HBF
        go_wp2_with fail
        have HW0 : Hid ((wr.alloc (.cells #[.int .i64 b] 3)).ownsRow wr.heap.size 3 1 (.slice (some ⟨wr.heap.size, 0, none⟩) 1 1) 1 [.int .i64 b]) := own_lit (w := wr) [.int .i64 b] 3 1 rfl (by omega)
        have hnw := below_new wr (.cells #[.int .i64 b] 3)
        have HC0 := hid (rowIs_below HF.out.c hnw HF.out.c.lt)
        have HB0 := hid (below_then HF.out.b hnw HF.out.b.size)
        have hbw : w.heap.size ≤ wr.heap.size := HF.out.b.size
        have hgcw : gc < wr.heap.size := HF.out.c.lt
        obtain ⟨x0, hx0⟩ := List.getElem?_of_mem ((HBF.out.mem b).1 (by rw [← HCB.out]; omega))
        have hx0l := (List.getElem?_eq_some_iff.1 hx0).1
        have HX0 := hid hx0
        rw [← HM.out] at hx0l
        clear hnw hx0
        generalize wr.alloc (.cells #[.int .i64 b] 3) = w6 at *
        generalize wr.heap.size = base4 at *
        go_loopw [14, 13] (fun vv q wr => ∃ (f : List Nat) (v x : Nat), vv = .int .i64 v ∧ wr.ownsRow base4 3 1 q (f.length + 1) ((f ++ [v]).map iV) ∧ Q[x]? = some v ∧ f.length + x + 1 ≤ m ∧ (∀ r, Chn came a v r → Chn came a b (f ++ r)) ∧ wr.rowIs gc 3 n (fun t => .int .i64 (came t)) ∧ Below w.heap.size w wr) (fun vv _ _ => Q.idxOf (intOf vv).toNat)
        case atStart => exact ⟨[], b, x0, rfl, HW0.out, HX0.out, by simp; omega, fun r hr => hr, HC0.out, HB0.out⟩
        case round =>
          clear HW0 HC0 HB0 HX0
          obtain ⟨f, v, x, rfl, hwq, hx, hfl, hch, hc, hb⟩ := hrel
          have HX := hid hx
          have HCH := hid hch
          have HC := hid hc
          have HB := hid hb
          obtain ⟨fl, hfl2⟩ : ∃ fl, fl = f.length + 1 := ⟨_, rfl⟩
          rw [← hfl2] at hwq
          have HWQ := hid hwq
          obtain ⟨A13, c13, rfl, _, hm13⟩ := own_slice hwq
          have HFL := hid hfl2
          have hfl3 : fl + x ≤ m := by omega
          have HFX := hid hfl
          clear hx hch hc hb hwq hfl2 hfl
          by_cases hva : v = a
          · obtain ⟨z, hz⟩ : ∃ z, z = (f ++ [v]).reverse := ⟨_, rfl⟩
            have HLX : Hid (Lex (natG gs) b a z) := by
              show Lex _ _ _ _
              rw [hz]
              exact lex_congr (fun _ _ => svG_mem) (HBEND.out.lex ((HBF.out.mem b).1 (by rw [← HCB.out]; omega)) (by have := HCH.out [a] (by rw [hva]; exact .stop); rw [hva]; exact this))
            have hzl : z.length = fl := by rw [hz, List.length_reverse, List.length_append, HFL.out]; rfl
            have HZ := hid hz
            have HWI : Hid (wr.ownsRow base4 3 1 (.slice A13 fl c13) fl ((ints (f ++ [v])).map (Value.int .i64))) := by
              have h := HWQ.out
              rw [show (f ++ [v]).map iV = (ints (f ++ [v])).map (Value.int .i64) by rw [List.map_map]; rfl] at h
              exact h
            have hbe : ((v : Int) != (a : Int)) = false := by rw [hva]; simp
            have HZL := hid hzl
            clear hz hva hzl
            go_wp2_with fail
            refine (reverse_calls wr base4 fl (.slice A13 fl c13) (ints (f ++ [v])) HWI.out (by omega)).mono ?_
            rintro e w7 ⟨rfl, ho7, hb7⟩
            have HO7 := hid ho7
            have HB7 := hid hb7
            clear ho7 hb7
            go_wp2_with fail
            go_ret
            refine ⟨_, rfl, HB.out.trans (HB7.out.mono hbw), .inr ⟨z, HLX.out, by rw [HZL.out]; omega, own_base ?_ hbw⟩⟩
            have h := HO7.out
            rw [← List.map_reverse, List.map_map, ← show z = _ from HZ.out] at h
            rw [HZL.out]
            exact h
          · have hbe : ((v : Int) != (a : Int)) = true := by simp; omega
            have hvn : v < n := HBF.out.rng v (List.mem_of_getElem? HX.out)
            obtain ⟨_, _, p, hp1, hp2, hp3, hp4⟩ := HBF.out.par x v (HBF.out.at_ne HX.out hva) HX.out
            obtain ⟨y, hy⟩ : ∃ y, y = pi x := ⟨_, rfl⟩
            rw [← hy] at hp1 hp4
            have hcv := HC.out.cell hvn
            rw [hp2] at hcv
            have HP1 := hid hp1
            have HVA := hid hva
            have HP2 := hid hp2
            have HIDX : Hid (Q.idxOf p < Q.idxOf v) := by
              show _ < _
              rw [idxOf_at HBF.out.nd HP1.out, idxOf_at HBF.out.nd HX.out]
              exact hp4
            have hapl : (fl + 1) * 8 ≤ 140737488355328 := by omega
            have hsz4 : base4 ≤ wr.heap.size := by
              rcases HWQ.out.2 with ⟨_, h0⟩ | ⟨g', _, _, _, h1, h2, _⟩
              · have := HFL.out; omega
              · have := (Array.getElem?_eq_some_iff.1 h2).1; omega
            have HBW : Hid (Below base4 wr wr) := Below.refl _ _
            clear hp1 hp2 hp3 hva hy
            go_wp2_with (at_builtin; refine append1 (w0 := wr) base4 (by rfl) (.tmp 82) (.tmp 84) 22 3 (.int .i64 0) 8 (by rfl) Tryd.underlying22 Tryd.infoInt (by rfl) (by decide) _ _ _ _ (by rfl) (by rfl) (by rfl) HWQ.out HBW.out hsz4 hapl ?_; intro v3 w3 o3 b3 g3 _)
            go_roundw
            case measure => exact HIDX.out
            case rel =>
              refine ⟨f ++ [v], p, y, rfl, ?_, HP1.out, by rw [List.length_append, List.length_singleton]; have := HFX.out; omega, fun r hr => ?_, rowIs_below HC.out b3 hgcw, HB.out.trans (b3.mono hbw)⟩
              · rw [List.length_append, List.length_singleton, ← HFL.out, List.map_append]
                exact o3
              · have h := HCH.out (v :: r) (.go HVA.out HP2.out hr)
                rw [List.append_assoc]
                exact h
    · obtain rfl : m = i := by omega
      by_cases hneg : cb < 0
      · have HNO : Hid (¬ Tar.Reach (Arr (natG gs)) a b) := fun hr => HBF.out.none_ (by rw [← HM.out]; exact Nat.le_refl _) (by rw [← HCB.out]; exact hneg) (reach_congr (fun _ _ h => svG_mem.2 h) hr)
        have HBB := hid HF.out.b
        go_wp2_with fail
        go_ret
        exact ⟨_, rfl, HBB.out, .inl ⟨HNO.out, rfl⟩⟩
      · have HBEND := HBF
        go_wp2_with fail
        have HW0 : Hid ((wr.alloc (.cells #[.int .i64 b] 3)).ownsRow wr.heap.size 3 1 (.slice (some ⟨wr.heap.size, 0, none⟩) 1 1) 1 [.int .i64 b]) := own_lit (w := wr) [.int .i64 b] 3 1 rfl (by omega)
        have hnw := below_new wr (.cells #[.int .i64 b] 3)
        have HC0 := hid (rowIs_below HF.out.c hnw HF.out.c.lt)
        have HB0 := hid (below_then HF.out.b hnw HF.out.b.size)
        have hbw : w.heap.size ≤ wr.heap.size := HF.out.b.size
        have hgcw : gc < wr.heap.size := HF.out.c.lt
        obtain ⟨x0, hx0⟩ := List.getElem?_of_mem ((HBF.out.mem b).1 (by rw [← HCB.out]; omega))
        have hx0l := (List.getElem?_eq_some_iff.1 hx0).1
        have HX0 := hid hx0
        rw [← HM.out] at hx0l
        clear hnw hx0
        generalize wr.alloc (.cells #[.int .i64 b] 3) = w6 at *
        generalize wr.heap.size = base4 at *
        go_loopw [14, 13] (fun vv q wr => ∃ (f : List Nat) (v x : Nat), vv = .int .i64 v ∧ wr.ownsRow base4 3 1 q (f.length + 1) ((f ++ [v]).map iV) ∧ Q[x]? = some v ∧ f.length + x + 1 ≤ m ∧ (∀ r, Chn came a v r → Chn came a b (f ++ r)) ∧ wr.rowIs gc 3 n (fun t => .int .i64 (came t)) ∧ Below w.heap.size w wr) (fun vv _ _ => Q.idxOf (intOf vv).toNat)
        case atStart => exact ⟨[], b, x0, rfl, HW0.out, HX0.out, by simp; omega, fun r hr => hr, HC0.out, HB0.out⟩
        case round =>
          clear HW0 HC0 HB0 HX0
          obtain ⟨f, v, x, rfl, hwq, hx, hfl, hch, hc, hb⟩ := hrel
          have HX := hid hx
          have HCH := hid hch
          have HC := hid hc
          have HB := hid hb
          obtain ⟨fl, hfl2⟩ : ∃ fl, fl = f.length + 1 := ⟨_, rfl⟩
          rw [← hfl2] at hwq
          have HWQ := hid hwq
          obtain ⟨A13, c13, rfl, _, hm13⟩ := own_slice hwq
          have HFL := hid hfl2
          have hfl3 : fl + x ≤ m := by omega
          have HFX := hid hfl
          clear hx hch hc hb hwq hfl2 hfl
          by_cases hva : v = a
          · obtain ⟨z, hz⟩ : ∃ z, z = (f ++ [v]).reverse := ⟨_, rfl⟩
            have HLX : Hid (Lex (natG gs) b a z) := by
              show Lex _ _ _ _
              rw [hz]
              exact lex_congr (fun _ _ => svG_mem) (HBEND.out.lex ((HBF.out.mem b).1 (by rw [← HCB.out]; omega)) (by have := HCH.out [a] (by rw [hva]; exact .stop); rw [hva]; exact this))
            have hzl : z.length = fl := by rw [hz, List.length_reverse, List.length_append, HFL.out]; rfl
            have HZ := hid hz
            have HWI : Hid (wr.ownsRow base4 3 1 (.slice A13 fl c13) fl ((ints (f ++ [v])).map (Value.int .i64))) := by
              have h := HWQ.out
              rw [show (f ++ [v]).map iV = (ints (f ++ [v])).map (Value.int .i64) by rw [List.map_map]; rfl] at h
              exact h
            have hbe : ((v : Int) != (a : Int)) = false := by rw [hva]; simp
            have HZL := hid hzl
            clear hz hva hzl
            go_wp2_with fail
            refine (reverse_calls wr base4 fl (.slice A13 fl c13) (ints (f ++ [v])) HWI.out (by omega)).mono ?_
            rintro e w7 ⟨rfl, ho7, hb7⟩
            have HO7 := hid ho7
            have HB7 := hid hb7
            clear ho7 hb7
            go_wp2_with fail
            go_ret
            refine ⟨_, rfl, HB.out.trans (HB7.out.mono hbw), .inr ⟨z, HLX.out, by rw [HZL.out]; omega, own_base ?_ hbw⟩⟩
            have h := HO7.out
            rw [← List.map_reverse, List.map_map, ← show z = _ from HZ.out] at h
            rw [HZL.out]
            exact h
          · have hbe : ((v : Int) != (a : Int)) = true := by simp; omega
            have hvn : v < n := HBF.out.rng v (List.mem_of_getElem? HX.out)
            obtain ⟨_, _, p, hp1, hp2, hp3, hp4⟩ := HBF.out.par x v (HBF.out.at_ne HX.out hva) HX.out
            obtain ⟨y, hy⟩ : ∃ y, y = pi x := ⟨_, rfl⟩
            rw [← hy] at hp1 hp4
            have hcv := HC.out.cell hvn
            rw [hp2] at hcv
            have HP1 := hid hp1
            have HVA := hid hva
            have HP2 := hid hp2
            have HIDX : Hid (Q.idxOf p < Q.idxOf v) := by
              show _ < _
              rw [idxOf_at HBF.out.nd HP1.out, idxOf_at HBF.out.nd HX.out]
              exact hp4
            have hapl : (fl + 1) * 8 ≤ 140737488355328 := by omega
            have hsz4 : base4 ≤ wr.heap.size := by
              rcases HWQ.out.2 with ⟨_, h0⟩ | ⟨g', _, _, _, h1, h2, _⟩
              · have := HFL.out; omega
              · have := (Array.getElem?_eq_some_iff.1 h2).1; omega
            have HBW : Hid (Below base4 wr wr) := Below.refl _ _
            clear hp1 hp2 hp3 hva hy
            go_wp2_with (at_builtin; refine append1 (w0 := wr) base4 (by rfl) (.tmp 82) (.tmp 84) 22 3 (.int .i64 0) 8 (by rfl) Tryd.underlying22 Tryd.infoInt (by rfl) (by decide) _ _ _ _ (by rfl) (by rfl) (by rfl) HWQ.out HBW.out hsz4 hapl ?_; intro v3 w3 o3 b3 g3 _)
            go_roundw
            case measure => exact HIDX.out
            case rel =>
              refine ⟨f ++ [v], p, y, rfl, ?_, HP1.out, by rw [List.length_append, List.length_singleton]; have := HFX.out; omega, fun r hr => ?_, rowIs_below HC.out b3 hgcw, HB.out.trans (b3.mono hbw)⟩
              · rw [List.length_append, List.length_singleton, ← HFL.out, List.map_append]
                exact o3
              · have h := HCH.out (v :: r) (.go HVA.out HP2.out hr)
                rw [List.append_assoc]
                exact h
end Go.Proofs.YtapebbejdgeijaaDoor
