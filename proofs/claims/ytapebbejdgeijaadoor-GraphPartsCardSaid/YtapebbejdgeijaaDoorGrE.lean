/- graph.search: from. -/
import Derived.Test.YtapebbejdgeijaaDoorGrD
import Derived.StillTailTactics
namespace Go.Proofs.YtapebbejdgeijaaDoor
open Go.RowKit Go.Extern.Stop Go.Stop Go.Extern Go.Deep Tar

theorem frames_set (v i j : Nat) (cs : List (Nat × Nat)) : (frames ((v, i) :: cs)).set (cs.length * 2 + 1) (iV j) = frames ((v, j) :: cs) := by
  rw [frames_cons, frames_cons, List.set_append_right _ _ (by rw [frames_length]; omega), frames_length, show cs.length * 2 + 1 - cs.length * 2 = 1 by omega]
  rfl
/-- The topmost call's place is set. -/
theorem SrAt.bump {w0 wr w' : World} {b gl gf gp base n : Nat} {nx vo : Value} {s : St} {gc mc cc v i j : Nat} {cs : List (Nat × Nat)} (h : SrAt w0 wr b gl gf gp base nx n s vo (.slice (some ⟨gc, 0, none⟩) mc cc)) (hc : s.calls = (v, i) :: cs) (hm : mc = cs.length + 1) (q : Nat) (hq : q = cs.length) (hw : w' = wr.setCell ⟨gc, q * 2 + 1, none⟩ (.int .i64 (j : Int))) :
    SrAt w0 w' b gl gf gp base nx n { s with calls := (v, j) :: cs } vo (.slice (some ⟨gc, 0, none⟩) mc cc) := by
  obtain ⟨nb1, nb2, nb3⟩ := h.ne_b
  obtain ⟨l0, l1, l2, l3⟩ := h.l0
  have hca : wr.ownsRow base 170 2 (.slice (some ⟨gc, 0, none⟩) mc cc) mc (frames s.calls) := by
    have h1 := h.ca
    have h2 : s.calls.length = mc := by rw [hc, hm]; rfl
    rw [h2] at h1
    exact h1
  have hgc := hca.lt gc rfl
  have same : ∀ k, k ≠ gc → w'.heap[k]? = wr.heap[k]? := fun k hk => by rw [hw]; exact Below.heap_setCell _ _ _ _ hk
  have hst := (hca.stored (q * 2 + 1) (.int .i64 (j : Int))).1
  rw [hc, hq, frames_set] at hst
  refine ⟨(same b (by omega)).trans h.box, h.lo.of_block (same gl (by omega)), h.fo.of_block (same gf (by omega)), h.pa.of_block (same gp (by omega)), ?_, ?_, h.n1, h.n2, h.n3, h.l0, h.ge, ?_, ?_⟩
  · rw [hw]
    refine own_other h.op _ _ fun g hg e => ?_
    have hne := own_type_ne h.op hca (by decide)
    rcases hne with h1 | h1
    · rw [h1] at hg; cases hg
    · exact h1 (by rw [hg]; exact congrArg some e)
  · have e : mc = ({ s with calls := (v, j) :: cs } : St).calls.length := by rw [hm]; rfl
    rw [hw, hq]
    rw [← e]
    exact hst
  · rw [hw]
    exact h.bel.setCell (show w0.heap.size ≤ gc from by have := h.ge.1; omega) _
  · rw [hw]
    simp
    exact h.bs

theorem SrAt.drew {w0 wr : World} {b gl gf gp base n : Nat} {nx vo vc : Value} {s : St} (h : SrAt w0 wr b gl gf gp base nx n s vo vc) : SrAt w0 wr.drew b gl gf gp base nx n s vo vc :=
  ⟨h.box, h.lo, h.fo, h.pa, h.op, h.ca, h.n1, h.n2, h.n3, h.l0, h.ge, Below.drew h.bel, h.bs⟩

def FromPost (w0 : World) (b gl gf gp base : Nat) (nx : Value) (g : Nat → List Nat) (n : Nat) (s : St) (v : Nat) (e : Ending) (w' : World) : Prop :=
  e = .returned (.tuple #[]) ∧ ∃ s' vo' vc', SrAt w0 w' b gl gf gp base nx n s' vo' vc' ∧ Inv g n s' ∧ Bnd g n s' ∧ s'.calls = [] ∧ s'.found v ≠ 0 ∧ ∀ u, s.found u ≠ 0 → s'.found u ≠ 0

set_option maxRecDepth 100000 in
set_option maxHeartbeats 800000 in
theorem gFrom_calls (w0 wr : World) (b gl gf gp base : Nat) (A : Option Addr) (n c : Nat) (gs : List (List Int)) (hg : GrAt w0 A gs) (hn : n = gs.length) (s : St) (vo vc : Value) (v : Nat) (hs : SrAt w0 wr b gl gf gp base (.slice A n c) n s vo vc) (hi : Inv (natG gs) n s) (hb : Bnd (natG gs) n s) (hc : s.calls = []) (hv : v < n) (hf : s.found v = 0) :
    Calls Tryd.prog 75 #[.pointer (some ⟨b, 0, none⟩), .int .i64 v] wr (FromPost w0 b gl gf gp base (.slice A n c) (natG gs) n s v) := by
  have HGR := hid hg
  have HGN : Hid (∀ x, ∀ t ∈ natG gs x, t < n) := fun x t ht => by rw [hn]; exact natG_lt hg.2 x t ht
  have hn8 : n ≤ 8193 := by rw [hn]; exact hg.2.1
  have HN := hid hn
  have HS := hid hs
  have HI := hid hi
  have HB := hid hb
  have HC := hid hc
  have HF := hid hf
  have ht : s.time ≤ 8193 := by have := hb.tm; omega
  have ho : s.open'.length ≤ 8193 := by have := hb.op; omega
  have hcl : s.calls.length ≤ 8193 := by have := hb.cl; omega
  clear hg hn hs hi hb hc hf
  go_enter Tryd.func75, Tryd.ntmps75
  go_wp2_with fail
  refine (gEnter_calls w0 wr b gl gf gp base _ n s vo vc v HS.out hv ht ho hcl).mono ?_
  rintro e w1 ⟨rfl, vo1, vc1, S1⟩
  have HS1 := hid S1
  clear S1 ht ho hcl
  go_wp2_with fail
  go_loopg [] (St.mu (natG gs) n (s.enter v)) (fun m wr => ∃ (s' : St) (vo' vc' : Value), s'.mu (natG gs) n = m ∧ SrAt w0 wr b gl gf gp base (.slice A n c) n s' vo' vc' ∧ Inv (natG gs) n s' ∧ Bnd (natG gs) n s' ∧ s'.found v ≠ 0 ∧ ∀ u, s.found u ≠ 0 → s'.found u ≠ 0)
  case atStart =>
    refine ⟨s.enter v, vo1, vc1, rfl, HS1.out, HI.out.enter_root HC.out HF.out hv, ?_, ?_, fun u hu => ?_⟩
    · have h := HB.out.enter (t := v) (C := []) HF.out hv (Nat.zero_le _) (by simp)
      rw [← HC.out] at h
      exact h
    · show upd s.found v (s.time + 1) v ≠ 0
      rw [upd_same]; omega
    · show upd s.found v (s.time + 1) u ≠ 0
      unfold upd
      split
      · omega
      · exact hu
  case round =>
    obtain ⟨s', vo', vc', hm, S, hI, hB, hfv, hmono⟩ := hrel
    obtain ⟨mc, hmc⟩ : ∃ mc, mc = s'.calls.length := ⟨_, rfl⟩
    have hca : wr.ownsRow base 170 2 vc' mc (frames s'.calls) := by rw [hmc]; exact S.ca
    obtain ⟨A2, cc, hvc, hcc, hmc9⟩ := own_slice hca
    subst hvc
    obtain ⟨d0, d1, d2, d3, d4, d5, d6, dz⟩ := cells7 S.box
    have HSr := hid S
    have HIr := hid hI
    have HBr := hid hB
    have HFV := hid hfv
    have HMO := hid hmono
    have HM := hid hm
    have HMC := hid hmc
    have HCA := hid hca
    clear S hI hB hfv hmono hm hmc hca dz
    by_cases h0 : mc = 0
    · subst h0
      go_wp2_with fail
      go_end0
      refine ⟨rfl, s', vo', _, HSr.out, HIr.out, HBr.out, ?_, HFV.out, HMO.out⟩
      exact List.eq_nil_of_length_eq_zero HMC.out.symm
    · obtain ⟨gc, cc2, hv2, hgcl, hgcb, hcc2, _⟩ := own_form HCA.out (by omega)
      simp only [Value.slice.injEq] at hv2
      obtain ⟨rfl, -, rfl⟩ := hv2
      obtain ⟨x, i, cs, hcs⟩ : ∃ x i cs, s'.calls = (x, i) :: cs := by
        cases hcs : s'.calls with
        | nil => rw [HMC.out, hcs] at h0; exact absurd rfl h0
        | cons a l => exact ⟨a.1, a.2, l, rfl⟩
      obtain ⟨q, hq⟩ : ∃ q, q = cs.length := ⟨_, rfl⟩
      have hmq : mc = q + 1 := by rw [HMC.out, hcs, hq]; rfl
      have hfr := frames_at cs hcs
      rw [← hq] at hfr
      have k0 := HCA.out.cellAt (q * 2) (by omega)
      have k1 := HCA.out.cellAt (q * 2 + 1) (by omega)
      rw [hfr.1] at k0
      rw [hfr.2] at k1
      have kz := HCA.out.frozenAt (q * 2 + 1)
      have hon : s'.onC x := ⟨i, by rw [hcs]; simp⟩
      have hxo := HIr.out.cop x hon
      have hxn : x < n := HIr.out.rng x ((HIr.out.opn x).1 hxo).1
      have hix : i ≤ (natG gs x).length := HBr.out.ix (x, i) (by rw [hcs]; simp)
      have hL := HGR.out.rowLen x
      obtain ⟨ba, oa, A', c', rfl, hrow, hcap, hri⟩ := (HGR.out).row (show x < gs.length by rw [← HN.out]; exact hxn)
      have hba : ba < w0.heap.size := World.block_lt_of_cell? w0 _ hrow
      replace hrow := (HSr.out.bel.cell (show ba < w0.heap.size from hba)).trans hrow
      obtain ⟨L, hLd⟩ : ∃ L, L = (natG gs x).length := ⟨_, rfl⟩
      rw [← hLd] at hrow hcap hix hL
      have emq : (mc : Int) - 1 = (q : Int) := by omega
      have hqm : q < mc := by omega
      have HLD := hid hLd
      have HQ := hid hq
      have HCS := hid hcs
      have HRI := hid (hri.below HSr.out.bel (Nat.le_refl _))
      have HMQ : Hid (mc = cs.length + 1) := by show _ = _; rw [hmq, hq]
      have HXO := hid hxo
      clear hfr hon hxo hri hLd hq hcs hmq
      go_wp2_with fail
      go_region
      go_wp2_with fail
      go_region
      have HSd : Hid (SrAt w0 wr.drew.drew b gl gf gp base (.slice (some ⟨ba, oa, none⟩) n c) n s' vo' (.slice (some ⟨gc, 0, none⟩) mc cc)) := by
        have h := HSr.out
        exact ⟨h.box, h.lo, h.fo, h.pa, h.op, h.ca, h.n1, h.n2, h.n3, h.l0, h.ge, Below.drew (Below.drew h.bel), h.bs⟩
      generalize hw2 : wr.drew.drew = w2 at *
      have k0' : w2.cell? ⟨gc, q * 2, none⟩ = some (iV x) := by rw [← hw2]; exact k0
      have k1' : w2.cell? ⟨gc, q * 2 + 1, none⟩ = some (iV i) := by rw [← hw2]; exact k1
      have kz' : w2.frozen? ⟨gc, q * 2 + 1, none⟩ = false := by rw [← hw2]; exact kz
      have hrow' : w2.cell? ⟨ba, oa + x, none⟩ = some (.slice A' L c') := by rw [← hw2]; exact hrow
      have HRI2 : Hid (RI w2 .i64 A' (ints (natG gs x))) := by show RI _ _ _ _; rw [← hw2]; exact HRI.out
      clear hw2 k0 k1 kz hrow HRI d0 d1 d2 d3 d4 d5 d6
      have HST : Hid (s'.step (natG gs) = match (natG gs x)[i]? with
          | none => s'.leave
          | some t => if s'.found t = 0 then St.enter { s' with calls := (x, i + 1) :: cs } t
            else if s'.part t < 0 then { s' with calls := (x, i + 1) :: cs, low := upd s'.low x (min (s'.low x) (s'.found t)) }
            else { s' with calls := (x, i + 1) :: cs }) := by
        show _ = _
        conv => lhs; unfold St.step
        rw [HCS.out]
        rfl
      have HNX : Hid (Tar.Inv (natG gs) n (s'.step (natG gs)) ∧ Bnd (natG gs) n (s'.step (natG gs)) ∧ (s'.step (natG gs)).mu (natG gs) n < gk ∧ (s'.step (natG gs)).found v ≠ 0 ∧ ∀ u, s.found u ≠ 0 → (s'.step (natG gs)).found u ≠ 0) :=
        ⟨HIr.out.step HGN.out, HBr.out.step HIr.out HGN.out, by rw [← HM.out]; exact mu_step HGN.out (by rw [HCS.out]; simp), found_step v HFV.out, fun u hu => found_step u (HMO.out u hu)⟩
      have hol : s'.open'.length ≤ 8193 := by have := HBr.out.op; have := HBr.out.tm; omega
      have hcl : s'.calls.length ≤ 8193 := by have := HBr.out.cl; have := HBr.out.tm; omega
      have htm : s'.time ≤ 8193 := by have := HBr.out.tm; omega
      by_cases hiL : i = L
      · have HIL := hid hiL
        have hb1 : ((i : Int) == (L : Int)) = true := by simp; omega
        clear hiL
        have HON : Hid (∀ y ∈ s'.open', y < n) := fun y hy => HIr.out.rng y ((HIr.out.opn y).1 hy).1
        have HCN : Hid (∀ y ∈ cs, y.1 < n) := fun y hy => HIr.out.rng y.1 ((HIr.out.opn y.1).1 (HIr.out.cop y.1 ⟨y.2, by rw [HCS.out]; simp [hy]⟩)).1
        go_wp2_with fail
        refine (gLeave_calls w0 w2 b gl gf gp base _ n s' vo' _ x i cs HSd.out HCS.out HXO.out HON.out HCN.out hol hcl).mono ?_
        rintro e w3 ⟨rfl, vo3, vc3, S3⟩
        have HS3 := hid S3
        clear S3
        go_wp2_with fail
        go_roundg ((s'.step (natG gs)).mu (natG gs) n)
        case measure => exact HNX.out.2.2.1
        case rel =>
          refine ⟨s'.step (natG gs), vo3, vc3, rfl, ?_, HNX.out.1, HNX.out.2.1, HNX.out.2.2.2.1, HNX.out.2.2.2.2⟩
          have e : s'.step (natG gs) = s'.leave := by
            rw [HST.out, List.getElem?_eq_none_iff.2 (by rw [← HLD.out, HIL.out]; exact Nat.le_refl _)]
          rw [e]
          exact HS3.out
      · have hiL2 : i < L := by omega
        have hb1 : ((i : Int) == (L : Int)) = false := by simp; omega
        obtain ⟨b2, o2, t', rfl, ht', hct⟩ := HRI2.out.at_ (show i < (ints (natG gs x)).length by rw [List.length_map, ← HLD.out]; exact hiL2)
        obtain ⟨t, ht⟩ : ∃ t, (natG gs x)[i]? = some t := ⟨_, List.getElem?_eq_getElem (by rw [← HLD.out]; exact hiL2)⟩
        obtain rfl : (t : Int) = t' := by rw [List.getElem?_map, ht] at ht'; exact Option.some.inj ht'
        have htn : t < n := HGN.out x t (mem_at ht)
        have HT := hid ht
        have HIL := hid hiL
        have ei : IntKind.i64.wrap ((i : Int) + 1) = (i : Int) + 1 := by rw [IntKind.wrap_i64]; omega
        have HEI := hid ei
        obtain ⟨d0, d1, d2, d3, d4, d5, d6, dz⟩ := cells7 HSd.out.box
        clear ht' ht hiL ei dz
        go_wp2_with fail
        go_region
        go_upto_region 7 with (fail)
        obtain ⟨w5, hw5⟩ : ∃ w5, w5 = (w2.setCell ⟨gc, q * 2 + 1, none⟩ (.int .i64 ((i : Int) + 1))).drew := ⟨_, rfl⟩
        rw [← hw5]
        have S5 : Hid (SrAt w0 w5 b gl gf gp base (.slice (some ⟨ba, oa, none⟩) n c) n { s' with calls := (x, i + 1) :: cs } vo' (.slice (some ⟨gc, 0, none⟩) mc cc)) := by
          have h2 := HSd.out.bump (j := i + 1) (w' := w2.setCell ⟨gc, q * 2 + 1, none⟩ (.int .i64 ((i : Int) + 1))) HCS.out HMQ.out q HQ.out rfl
          show SrAt _ _ _ _ _ _ _ _ _ _ _ _
          rw [hw5]
          exact h2.drew
        have k0 : w5.cell? ⟨gc, q * 2, none⟩ = some (iV x) := by
          have hca5 : w5.ownsRow base 170 2 (.slice (some ⟨gc, 0, none⟩) mc cc) ((x, i + 1) :: cs).length (frames ((x, i + 1) :: cs)) := S5.out.ca
          rw [show ((x, i + 1) :: cs).length = mc from HMQ.out.symm] at hca5
          rw [hca5.cellAt (q * 2) (by omega), show q = cs.length from HQ.out]
          exact (frames_at cs rfl).1
        obtain ⟨f, hf⟩ : ∃ f, f = s'.found t := ⟨_, rfl⟩
        obtain ⟨p, hp⟩ : ∃ p, p = s'.part t := ⟨_, rfl⟩
        have e1 : w5.cell? ⟨gf, t, none⟩ = some (iV f) := by rw [hf]; exact S5.out.fo.cell htn
        have e2 : w5.cell? ⟨gp, t, none⟩ = some (.int .i64 p) := by rw [hp]; exact S5.out.pa.cell htn
        have e3 : w5.cell? ⟨gl, x, none⟩ = some (iV (s'.low x)) := S5.out.lo.cell hxn
        have e4 := S5.out.lo.frozen x
        have HF5 := hid hf
        have HP5 := hid hp
        have HS2 : Hid (s'.step (natG gs) = if f = 0 then St.enter { s' with calls := (x, i + 1) :: cs } t
            else if p < 0 then { s' with calls := (x, i + 1) :: cs, low := upd s'.low x (min (s'.low x) f) }
            else { s' with calls := (x, i + 1) :: cs }) := by
          show _ = _
          rw [HST.out, HT.out, hf, hp]
        have hlc : ((x, i + 1) :: cs).length ≤ 8193 := by rw [← show mc = ((x, i + 1) :: cs).length from HMQ.out]; rw [HMC.out]; exact hcl
        have HLC := hid hlc
        clear hw5 hf hp hlc
        obtain ⟨d0, d1, d2, d3, d4, d5, d6, dz⟩ := cells7 S5.out.box
        clear dz hrow' k0' k1' kz' hct
        by_cases hf0 : f = 0
        · have HF0 := hid hf0
          have hb2 : ((f : Int) == 0) = true := by simp; omega
          clear hf0
          go_wp2_with fail
          refine (gEnter_calls w0 w5 b gl gf gp base _ n { s' with calls := (x, i + 1) :: cs } vo' _ t S5.out htn htm hol HLC.out).mono ?_
          rintro e w6 ⟨rfl, vo6, vc6, S6⟩
          have HS6 := hid S6
          clear S6
          go_wp2_with fail
          go_roundg ((s'.step (natG gs)).mu (natG gs) n)
          case measure => exact HNX.out.2.2.1
          case rel =>
            refine ⟨s'.step (natG gs), vo6, vc6, rfl, ?_, HNX.out.1, HNX.out.2.1, HNX.out.2.2.2.1, HNX.out.2.2.2.2⟩
            rw [HS2.out, if_pos HF0.out]
            exact HS6.out
        · have HF0 := hid hf0
          have hb2 : ((f : Int) == 0) = false := by simp; omega
          clear hf0
          by_cases hp0 : p < 0
          · go_wp2_with fail
            go_still_tail 27, (by kernel_rfl)
            change wpList _ _ _ _ _ w5.drew
            have ew : (if f < s'.low x then ((f : Nat) : Int) else ((s'.low x : Nat) : Int)) = ((min (s'.low x) f : Nat) : Int) := by split <;> omega
            rw [ew]
            have S6 := hid (S5.out.setLow x (min (s'.low x) f) (upd s'.low x (min (s'.low x) f)) (fun y _ => rfl) rfl)
            clear ew
            go_wp2_with fail
            generalize (w5.setCell ⟨gl, x, none⟩ (.int .i64 ((min (s'.low x) f : Nat) : Int))).drew = w6 at *
            go_roundg ((s'.step (natG gs)).mu (natG gs) n)
            case measure => exact HNX.out.2.2.1
            case rel =>
              refine ⟨s'.step (natG gs), vo', .slice (some ⟨gc, 0, none⟩) mc cc, rfl, ?_, HNX.out.1, HNX.out.2.1, HNX.out.2.2.2.1, HNX.out.2.2.2.2⟩
              rw [HS2.out, if_neg HF0.out, if_pos hp0]
              exact S6.out
          · go_wp2_with fail
            go_roundg ((s'.step (natG gs)).mu (natG gs) n)
            case measure => exact HNX.out.2.2.1
            case rel =>
              refine ⟨s'.step (natG gs), vo', .slice (some ⟨gc, 0, none⟩) mc cc, rfl, ?_, HNX.out.1, HNX.out.2.1, HNX.out.2.2.2.1, HNX.out.2.2.2.2⟩
              rw [HS2.out, if_neg HF0.out, if_neg (by omega)]
              exact S5.out
end Go.Proofs.YtapebbejdgeijaaDoor
