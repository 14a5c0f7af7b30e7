/- graph.Parts. -/
import Derived.Test.YtapebbejdgeijaaDoorGrE
import Derived.Test.YtapebbejdgeijaaDoorGrG
import Derived.Test.YtapebbejdgeijaaDoorMapI
namespace Go.Proofs.YtapebbejdgeijaaDoor
open Go.RowKit Go.Extern.Stop Go.Stop Go.Extern Go.Deep Tar

theorem rowIs_made_at (w : World) (z : Value) (e : TypeId) (n k : Nat) (h : k = w.heap.size) : (w.alloc (.cells (madeCells #[z] n) e)).rowIs k e n (fun _ => z) := by rw [h]; exact rowIs_made w z e n
theorem rowIs_alloc {w : World} {g n : Nat} {t : TypeId} {f : Nat → Value} (h : w.rowIs g t n f) (o : Obj) : (w.alloc o).rowIs g t n f := rowIs_below h (below_new w o) h.lt
theorem rowIs_drew {w : World} {g n : Nat} {t : TypeId} {f : Nat → Value} (h : w.rowIs g t n f) : w.drew.rowIs g t n f := h
theorem SrAt.start {w0 wx : World} {b gl gf gp n : Nat} {nx : Value} (hb : wx.heap[b]? = some (.cells #[nx, .slice (some ⟨gl, 0, none⟩) n n, .slice (some ⟨gf, 0, none⟩) n n, .slice none 0 0, .slice (some ⟨gp, 0, none⟩) n n, .slice none 0 0, .int .i64 0] 125 (0, 0)))
    (h1 : wx.rowIs gl 3 n (fun _ => .int .i64 0)) (h2 : wx.rowIs gf 3 n (fun _ => .int .i64 0)) (h3 : wx.rowIs gp 3 n (fun _ => .int .i64 (-1))) (hbel : Below w0.heap.size w0 wx)
    (n1 : gl ≠ gf) (n2 : gl ≠ gp) (n3 : gf ≠ gp) (ge : w0.heap.size ≤ b ∧ w0.heap.size ≤ gl ∧ w0.heap.size ≤ gf ∧ w0.heap.size ≤ gp) :
    SrAt w0 wx b gl gf gp wx.heap.size nx n St.init (.slice none 0 0) (.slice none 0 0) :=
  ⟨hb, h1, h2, h3, World.ownsRow_nil _ _ _ _, World.ownsRow_nil _ _ _ _, n1, n2, n3, ⟨(Array.getElem?_eq_some_iff.1 hb).1, h1.lt, h2.lt, h3.lt⟩, ge, hbel, Nat.le_refl _⟩

def GPartsPost (w : World) (g : Nat → List Nat) (n : Nat) (e : Ending) (w' : World) : Prop :=
  ∃ (gx : Nat) (xs : List Nat), e = .returned (.tuple #[.slice (some ⟨gx, 0, none⟩) n n, .nilIface]) ∧ w'.rowIs gx 3 n (fun j => iV (xs.getD j 0)) ∧ IsParts g n xs ∧ Below w.heap.size w w'
def GBadPost (S : Nat → Addr) (i n : Int) (w : World) (e : Ending) (w' : World) : Prop :=
  Below w.heap.size w w' ∧ ∃ v, e = .returned (.tuple #[.slice none 0 0, v]) ∧ Chain S w' v (rootIx n) [(opGraph, i)]

set_option maxRecDepth 100000 in
set_option maxHeartbeats 3200000 in
theorem gParts_ok (B : Nat) (S : Nat → Addr) (w : World) (hE : Env B S w) (A : Option Addr) (n c : Nat) (gs : List (List Int)) (hr : RII w .i64 A gs) (hn : n = gs.length) (hb : graphBad gs = none) (hl : ∀ xs ∈ gs, xs.length ≤ 17592186043904) :
    Calls Tryd.prog 34 #[.slice A n c] w (GPartsPost w (natG gs) n) := by
  have hg : GrAt w A gs := ⟨hr, GOk.of_bad hb⟩
  have HG := hid hg
  have HR := hid hr
  have hn8 : n ≤ 8192 := by rw [hn]; exact (graphOk hb).1
  have HGN : Hid (∀ x, ∀ t ∈ natG gs x, t < n) := fun x t ht => by rw [hn]; exact natG_lt hg.2 x t ht
  have HN := hid hn
  have HBAD := hid hb
  have HL := hid hl
  have HE := hid hE
  clear hg hr hn hb hl hE
  go_enter Tryd.func34, Tryd.ntmps34
  go_wp2_with fail
  refine (gCheck_calls B S w HE.out A n c gs HN.out HR.out HL.out).mono ?_
  rintro e w1 ⟨hb1, h⟩
  rw [show graphBad gs = none from HBAD.out] at h
  obtain rfl := h
  have HB1 := hid hb1
  have HG1 := hid (HG.out.below hb1)
  clear hb1
  have hmk := run_make_row' (P := Tryd.prog) 22 3 (.int .i64 0) 8 Tryd.underlying22 Tryd.infoInt rfl .i64 .i64 n (by omega) (by omega)
  go_upto_region 5 with (fail)
  go_cut [6] (fun u6 wx => ∃ b gl gf gp base, u6 = .pointer (some ⟨b, 0, none⟩) ∧ SrAt w1 wx b gl gf gp base (.slice A n c) n St.init (.slice none 0 0) (.slice none 0 0))
  case first =>
    go_region_with (go_at_call 74; refine (repeat_calls _ _ (-1) n (by omega) (by show (World.alloc _ _).heap[_]? = _; first | exact heap_alloc_at _ _ _ (by simp) | (rw [heap_alloc_lt _ _ _ (by simp)]; exact heap_alloc_at _ _ _ (by simp)) | (rw [heap_alloc_lt _ _ _ (by first | omega | (simp <;> omega)), heap_alloc_lt _ _ _ (by simp)]; exact heap_alloc_at _ _ _ (by simp)))).mono ?_; rintro e wq ⟨rfl, hrq, hbq⟩; have hrp := rowIs_of_intBlk hrq; have hsq := hbq.size; simp at hrp hsq; have hlq := hrp.lt)
    all_goals
      go_wp2_with fail
      go_meet
      case rel =>
        refine ⟨_, _, _, _, _, rfl, SrAt.start (heap_alloc_at _ _ _ (by simp)) ?_ ?_ ?_ ?_ ?_ ?_ ?_ ?_⟩
        · repeat (first | (refine rowIs_made_at _ _ _ _ _ ?_; first | omega | (simp <;> omega)) | (refine rowIs_drew (rowIs_made_at _ _ _ _ _ ?_); first | omega | (simp <;> omega)) | refine rowIs_drew (rowIs_alloc ?_ _) | refine rowIs_alloc ?_ _ | refine rowIs_below ?_ hbq (by first | omega | (simp <;> omega)))
        · repeat (first | (refine rowIs_made_at _ _ _ _ _ ?_; first | omega | (simp <;> omega)) | (refine rowIs_drew (rowIs_made_at _ _ _ _ _ ?_); first | omega | (simp <;> omega)) | refine rowIs_drew (rowIs_alloc ?_ _) | refine rowIs_alloc ?_ _ | refine rowIs_below ?_ hbq (by first | omega | (simp <;> omega)))
        · repeat (first | exact hrp | exact rowIs_drew hrp | refine rowIs_drew (rowIs_alloc ?_ _) | refine rowIs_alloc ?_ _)
        · repeat (first | exact Below.refl _ _ | refine Below.drew ?_ | refine below_alloc ?_ (by first | omega | (simp <;> omega)) _ | refine below_then ?_ hbq (by first | omega | (simp <;> omega)))
        · first | omega | (simp <;> omega)
        · first | omega | (simp <;> omega)
        · first | omega | (simp <;> omega)
        · first | omega | (simp <;> omega)
  case rest =>
    obtain ⟨b, gl, gf, gp, base, rfl, hS⟩ := hcut
    have HS := hid hS
    have HB1' := HB1
    clear hS
    go_wp2_with fail
    go_loopw [33] (fun iv wr => ∃ (j : Nat) (s : St) (vo vc : Value), j ≤ n ∧ iv = .int .i64 j ∧ SrAt w1 wr b gl gf gp base (.slice A n c) n s vo vc ∧ Tar.Rest (natG gs) n j s) (fun iv _ => n - (intOf iv).toNat)
    case atStart => exact ⟨0, St.init, _, _, Nat.zero_le _, rfl, HS.out, Inv.init _ _, Bnd.init _ _, rfl, fun v hv => absurd hv (Nat.not_lt_zero v)⟩
    case round =>
      clear HS
      obtain ⟨j, s, vo, vc, hj, rfl, hS, hR⟩ := hrel
      have HS := hid hS
      have HR' := hid hR
      clear hS hR
      obtain ⟨d0, d1, d2, d3, d4, d5, d6, dz⟩ := cells7 HS.out.box
      by_cases hlt : j < n
      · obtain ⟨fj, hfj⟩ : ∃ fj, fj = s.found j := ⟨_, rfl⟩
        have e1 : wr.cell? ⟨gf, j, none⟩ = some (iV fj) := by rw [hfj]; exact HS.out.fo.cell hlt
        have HFJ := hid hfj
        clear hfj dz
        by_cases h0 : fj = 0
        · have HF0 : Hid (s.found j = 0) := by show _ = _; rw [← HFJ.out, h0]
          have hb0 : ((fj : Int) == 0) = true := by rw [h0]; rfl
          clear h0
          go_wp2_with fail
          refine (gFrom_calls w1 wr b gl gf gp base A n c gs HG1.out HN.out s vo vc j HS.out HR'.out.inv HR'.out.bnd HR'.out.none hlt HF0.out).mono ?_
          rintro e w3 ⟨rfl, s', vo', vc', hS', hI, hBn, hC, hv, hmono⟩
          have HS' := hid hS'
          have HRS : Hid (Tar.Rest (natG gs) n (j + 1) s') := ⟨hI, hBn, hC, fun v hv2 => by
            by_cases e : v = j
            · rw [e]; exact hv
            · exact hmono v (HR'.out.all v (by omega))⟩
          clear hS' hI hBn hC hv hmono
          go_wp2_with fail
          go_roundw
          case measure => simp [intOf]; omega
          case rel => exact ⟨j + 1, s', vo', vc', by omega, by go_num, HS'.out, HRS.out⟩
        · have hb0 : ((fj : Int) == 0) = false := by simp; omega
          have HF0 : Hid (s.found j ≠ 0) := by show _ ≠ _; rw [← HFJ.out]; exact h0
          go_wp2_with fail
          go_roundw
          case measure => simp [intOf]; omega
          case rel => exact ⟨j + 1, s, vo, vc, by omega, by go_num, HS.out, HR'.out.inv, HR'.out.bnd, HR'.out.none, fun v hv => by
            by_cases e : v = j
            · rw [e]; exact HF0.out
            · exact HR'.out.all v (by omega)⟩
      · obtain rfl : n = j := by omega
        have hPa := HR'.out.parts
        have HPA := hid hPa
        have HP0 := hid HS.out.pa
        have hgp : gp < wr.heap.size := HP0.out.lt
        have HBR := hid (below_then HB1'.out HS.out.bel HB1'.out.size)
        obtain ⟨gm, hgm⟩ : ∃ gm, gm = wr.heap.size := ⟨_, rfl⟩
        have hmp : MapII ((wr.alloc (.map #[] 0)).alloc (.cells (madeCells #[.int .i64 0] n) 3)) gm 0 (fun _ => none) := by
          rw [hgm]
          exact (MapII.made wr).of_heap (Below.heap_alloc _ _ _ (by simp))
        have hout : ((wr.alloc (.map #[] 0)).alloc (.cells (madeCells #[.int .i64 0] n) 3)).rowIs (gm + 1) 3 n (fun _ => iV 0) := rowIs_made_at _ _ _ _ _ (by simp; omega)
        have hpa5 : ((wr.alloc (.map #[] 0)).alloc (.cells (madeCells #[.int .i64 0] n) 3)).rowIs gp 3 n (fun j => .int .i64 (s.part j)) := rowIs_alloc (rowIs_alloc HP0.out _) _
        have hdp : ((wr.alloc (.map #[] 0)).alloc (.cells (madeCells #[.int .i64 0] n) 3)).cell? ⟨b, 4, none⟩ = some (.slice (some ⟨gp, 0, none⟩) n n) := by
          have h1 : b < wr.heap.size := (Array.getElem?_eq_some_iff.1 HS.out.box).1
          have h2 : ((wr.alloc (.map #[] 0)).alloc (.cells (madeCells #[.int .i64 0] n) 3)).heap[b]? = wr.heap[b]? := by
            rw [heap_alloc_lt _ _ _ (by simp; omega), heap_alloc_lt _ _ _ h1]
          rw [show ∀ (w' : World), w'.heap[b]? = wr.heap[b]? → w'.cell? ⟨b, 4, none⟩ = wr.cell? ⟨b, 4, none⟩ from fun w' h => by simp [World.cell?, h], d4]
          exact h2
        have hb5 : Below w.heap.size w ((wr.alloc (.map #[] 0)).alloc (.cells (madeCells #[.int .i64 0] n) 3)) := below_alloc (below_alloc HBR.out HBR.out.size _) (by simp; have := HBR.out.size; omega) _
        have HMP := hid hmp
        have HOUT := hid hout
        have HPA5 := hid hpa5
        have HB5 := hid hb5
        have hge : w.heap.size ≤ gm := by rw [hgm]; exact HBR.out.size
        have hgpm : gp < gm := by rw [hgm]; exact hgp
        clear hPa hmp hout hpa5 hb5 HP0 HS HR' HBR dz d0 d1 d2 d3 d4 d5 d6 hgp
        have hmm := @run_makeMap Tryd.prog
        go_wp2_with fail
        simp only [← hgm] at *
        generalize ((wr.alloc (.map #[] 0)).alloc (.cells (madeCells #[.int .i64 0] n) 3)) = w5 at *
        clear hmm hmk hgm hdp
        have hne : gp ≠ gm + 1 := by omega
        have hne2 : gm ≠ gm + 1 := by omega
        have hge2 : w.heap.size ≤ gm + 1 := by omega
        go_loopw [56] (fun iv wr => ∃ (j : Nat) (f : Int → Option Int) (xs : Nat → Nat), j ≤ n ∧ iv = .int .i64 j ∧ MapII wr gm (cntNew (fun a b => s.part a = s.part b) j) f ∧ MapNum s.part j f ∧ wr.rowIs (gm + 1) 3 n (fun k => iV (xs k)) ∧ (∀ v, v < j → NumOf (fun a b => s.part a = s.part b) v (xs v)) ∧ wr.rowIs gp 3 n (fun k => .int .i64 (s.part k)) ∧ Below w.heap.size w wr) (fun iv _ => n - (intOf iv).toNat)
        case atStart => exact ⟨0, fun _ => none, fun _ => 0, Nat.zero_le _, rfl, HMP.out, MapNum.start, HOUT.out, fun v hv => absurd hv (Nat.not_lt_zero v), HPA5.out, HB5.out⟩
        case round =>
          clear HMP HOUT HPA5 HB5
          obtain ⟨j, f, xs, hj, rfl, hM, hN, hO, hX, hP, hB⟩ := hrel
          have HMM := hid hM
          have HNN := hid hN
          have HO := hid hO
          have HX := hid hX
          have HP := hid hP
          have HB := hid hB
          clear hM hN hO hX hP hB
          by_cases hlt : j < n
          · obtain ⟨pj, hpj⟩ : ∃ pj, pj = s.part j := ⟨_, rfl⟩
            have e1 : wr.cell? ⟨gp, j, none⟩ = some (.int .i64 pj) := by rw [hpj]; exact HP.out.cell hlt
            have hp1 := HPA.out.1 j hlt
            rw [← hpj] at hp1
            have hpok : i64ok pj := ⟨by omega, by omega⟩
            have hcl := cntNew_le (fun a b => s.part a = s.part b) j
            have HPJ := hid hpj
            clear hpj
            cases hf : f pj with
            | some x =>
              have hlk := HMM.out.lookup pj hpok
              have hlk2 := HMM.out.look pj hpok
              rw [hf] at hlk hlk2
              simp only [Option.getD_some, Option.isSome_some] at hlk hlk2
              have HF : Hid (f (s.part j) = some x) := by show _ = _; rw [← HPJ.out]; exact hf
              obtain ⟨hn1, hn2, k, rfl, hn3⟩ := HNN.out.old HF.out
              have HN1 := hid hn1
              have HN2 := hid hn2
              have HN3 := hid hn3
              have e2 := HO.out.cell hlt
              have e3 := HO.out.frozen j
              clear hf hn1 hn2 hn3
              go_wp2_with fail
              go_roundw
              case measure => simp [intOf]; omega
              case rel =>
                refine ⟨j + 1, f, fun u => if u = j then k else xs u, by omega, by go_num, ?_, HN1.out, rowIs_upd HO.out j _ fun u _ => ?_, fun v hv => ?_, rowIs_other HP.out hne, HB.out.setCell hge2 _⟩
                · rw [HN2.out]
                  exact HMM.out.of_heap (Below.heap_setCell _ _ _ _ hne2)
                · by_cases e : u = j
                  · simp only [if_pos e]
                  · simp only [if_neg e]
                · by_cases e : v = j
                  · subst e
                    simp only [if_true]
                    exact HN3.out
                  · simp only [if_neg e]
                    exact HX.out v (by omega)
            | none =>
              have hlk := HMM.out.lookup pj hpok
              rw [hf] at hlk
              simp only [Option.getD_none, Option.isSome_none] at hlk
              have HF : Hid (f (s.part j) = none) := by show _ = _; rw [← HPJ.out]; exact hf
              obtain ⟨hn1, hn2, hn3⟩ := HNN.out.new HF.out
              have HN1 := hid hn1
              have HN2 := hid hn2
              have HN3 := hid hn3
              obtain ⟨cj, hcj⟩ : ∃ cj, cj = cntNew (fun a b => s.part a = s.part b) j := ⟨_, rfl⟩
              rw [← hcj] at hcl
              have HMC : Hid (MapII wr gm cj f) := by have := HMM.out; rw [← hcj] at this; exact this
              have HCJ := hid hcj
              have hlen := HMC.out.len (f := f)
              obtain ⟨w2, hst, hM2, hg2, hs2⟩ := HMC.out.store (by simp only [maxLen]; omega) pj hpok hf (cj : Int) ⟨by omega, by omega⟩
              have hlk2 := hM2.look pj hpok
              simp only [if_true, Option.getD_some] at hlk2
              have HM2 := hid hM2
              have hO2 := HO.out.of_block (hg2.block (gm + 1) HO.out.lt (by simp))
              have hP2 := HP.out.of_block (hg2.block gp HP.out.lt (by simp; omega))
              have HO2 := hid hO2
              have HP2 := hid hP2
              have e2 := hO2.cell hlt
              have e3 := hO2.frozen j
              have HB2 := hid (HB.out.grown hg2 (HB.out.size) (fun k hk => by obtain rfl := Option.some.inj hk; exact hge))
              clear hf hn1 hn2 hn3 hM2 hO2 hP2 hcj HMM hs2 hg2
              go_wp2_with fail
              go_roundw
              case measure => simp [intOf]; omega
              case rel =>
                refine ⟨j + 1, _, fun u => if u = j then cj else xs u, by omega, by go_num, ?_, HN1.out, rowIs_upd HO2.out j _ fun u _ => ?_, fun v hv => ?_, rowIs_other HP2.out hne, HB2.out.setCell hge2 _⟩
                · rw [HN2.out, ← HPJ.out, ← HCJ.out]
                  exact HM2.out.of_heap (Below.heap_setCell _ _ _ _ hne2)
                · by_cases e : u = j
                  · simp only [if_pos e]
                  · simp only [if_neg e]
                · by_cases e : v = j
                  · subst e
                    simp only [if_true]
                    rw [HCJ.out]
                    exact HN3.out
                  · simp only [if_neg e]
                    exact HX.out v (by omega)
          · obtain rfl : n = j := by omega
            go_wp2_with fail
            go_ret2
            refine ⟨gm + 1, (List.range n).map xs, rfl, HO.out.congr fun u hu => ?_, ⟨by simp, fun v x hv => ?_⟩, HB.out⟩
            · show iV (xs u) = iV (((List.range n).map xs).getD u 0)
              simp [List.getD_eq_getElem?_getD, hu]
            · rw [List.getElem?_map] at hv
              have hvn : v < n := by
                rcases Nat.lt_or_ge v n with h | h
                · exact h
                · rw [List.getElem?_eq_none_iff.2 (by simp; exact h)] at hv; cases hv
              rw [List.getElem?_range hvn] at hv
              obtain rfl := Option.some.inj hv
              exact (HX.out v hvn).congr fun a b ha hb => HPA.out.2 a b (by omega) (by omega)
end Go.Proofs.YtapebbejdgeijaaDoor
