/- graph.search: leave. -/
import Derived.Test.YtapebbejdgeijaaDoorGrC
import Derived.Deep.DeepCutAuto
import Derived.Deep.LoopGhost
namespace Go.Proofs.YtapebbejdgeijaaDoor
open Go.RowKit Go.Extern.Stop Go.Stop Go.Extern Go.Deep Tar

theorem frames_at {cs : List (Nat × Nat)} {v i : Nat} (rest : List (Nat × Nat)) (h : cs = (v, i) :: rest) : (frames cs)[rest.length * 2]? = some (iV v) ∧ (frames cs)[rest.length * 2 + 1]? = some (iV i) := by
  subst h
  rw [frames_cons]
  have hl := frames_length rest
  constructor
  · rw [List.getElem?_append_right (by omega), hl, Nat.sub_self]; rfl
  · rw [List.getElem?_append_right (by omega), hl, show rest.length * 2 + 1 - rest.length * 2 = 1 by omega]; rfl
theorem frames_take (v i : Nat) (rest : List (Nat × Nat)) : (frames ((v, i) :: rest)).take (rest.length * 2) = frames rest := by
  rw [frames_cons, List.take_append_of_le_length (by rw [frames_length]; omega), List.take_of_length_le (by rw [frames_length]; omega)]
theorem stack_take (v : Nat) (l : List Nat) : (stack (v :: l)).take (l.length * 1) = stack l := by
  rw [stack_cons, List.take_append_of_le_length (by rw [stack_length]; omega), List.take_of_length_le (by rw [stack_length]; omega)]
theorem stack_at (v : Nat) (l : List Nat) : (stack (v :: l))[l.length]? = some (iV v) := by
  rw [stack_cons, List.getElem?_append_right (by rw [stack_length]; omega), stack_length, Nat.sub_self]; rfl

/-- The topmost call is struck. -/
theorem SrAt.pop {w0 wr w' : World} {b gl gf gp base n : Nat} {nx vo : Value} {s : St} {gc mc cc v i : Nat} {cs : List (Nat × Nat)} (h : SrAt w0 wr b gl gf gp base nx n s vo (.slice (some ⟨gc, 0, none⟩) mc cc)) (hc : s.calls = (v, i) :: cs) (hm : mc = cs.length + 1) (k : Nat) (hk : k = cs.length) (hw : w' = (wr.setCell ⟨b, 5, none⟩ (.slice (some ⟨gc, 0, none⟩) k cc)).drew) :
    SrAt w0 w' b gl gf gp base nx n { s with calls := cs } vo (.slice (some ⟨gc, 0, none⟩) k cc) := by
  obtain ⟨nb1, nb2, nb3⟩ := h.ne_b
  obtain ⟨l0, l1, l2, l3⟩ := h.l0
  have same : ∀ j, j ≠ b → w'.heap[j]? = wr.heap[j]? := fun j hj => by rw [hw]; exact Below.heap_setCell _ _ _ _ hj
  have hca : wr.ownsRow base 170 2 (.slice (some ⟨gc, 0, none⟩) mc cc) mc (frames s.calls) := by
    have h1 := h.ca
    have h2 : s.calls.length = mc := by rw [hc, hm]; rfl
    rw [h2] at h1
    exact h1
  have hcut := own_cut hca (k := k) (by omega)
  rw [hc, hk, frames_take] at hcut
  refine ⟨?_, h.lo.of_block (same gl (Ne.symm nb1)), h.fo.of_block (same gf (Ne.symm nb2)), h.pa.of_block (same gp (Ne.symm nb3)), own_keep h.op b (own_not_low2 h.op l0) same, ?_, h.n1, h.n2, h.n3, h.l0, h.ge, ?_, ?_⟩
  · rw [hw]
    show (wr.setCell ⟨b, 5, none⟩ (.slice (some ⟨gc, 0, none⟩) k cc)).heap[b]? = _
    rw [heap_setCell_same wr b 5 _ _ _ h.box]
    rfl
  · rw [hk]
    exact own_keep hcut b (own_not_low2 hcut l0) same
  · rw [hw]
    exact Below.drew (h.bel.setCell (show w0.heap.size ≤ b from h.ge.1) _)
  · rw [hw]
    show base ≤ (wr.setCell ⟨b, 5, none⟩ (.slice (some ⟨gc, 0, none⟩) k cc)).heap.size
    simp
    exact h.bs

/-- A number of a vertex is stored. -/
theorem SrAt.setLow {w0 wr w' : World} {b gl gf gp base n : Nat} {nx vo vc : Value} {s : St} (h : SrAt w0 wr b gl gf gp base nx n s vo vc) (u x : Nat) (low' : Nat → Nat) (hl : ∀ j, j < n → low' j = if j = u then x else s.low j) (hw : w' = (wr.setCell ⟨gl, u, none⟩ (.int .i64 (x : Int))).drew) :
    SrAt w0 w' b gl gf gp base nx n { s with low := low' } vo vc := by
  obtain ⟨nb1, nb2, nb3⟩ := h.ne_b
  obtain ⟨l0, l1, l2, l3⟩ := h.l0
  have same : ∀ j, j ≠ gl → w'.heap[j]? = wr.heap[j]? := fun j hj => by rw [hw]; exact Below.heap_setCell _ _ _ _ hj
  refine ⟨(same b nb1).trans h.box, ?_, h.fo.of_block (same gf (Ne.symm h.n1)), h.pa.of_block (same gp (Ne.symm h.n2)), own_keep h.op gl (own_not_low2 h.op l1) same, own_keep h.ca gl (own_not_low2 h.ca l1) same, h.n1, h.n2, h.n3, h.l0, h.ge, ?_, ?_⟩
  · rw [hw]
    exact rowIs_upd (f' := fun j => iV (low' j)) h.lo u _ fun j hj => by
      show iV (low' j) = _
      rw [hl j hj]
      split <;> rfl
  · rw [hw]
    exact Below.drew (h.bel.setCell (show w0.heap.size ≤ gl from h.ge.2.1) _)
  · rw [hw]
    show base ≤ (wr.setCell ⟨gl, u, none⟩ (.int .i64 (x : Int))).heap.size
    simp
    exact h.bs

/-- The last open vertex is struck. -/
theorem SrAt.popOpen {w0 wr w' : World} {b gl gf gp base n : Nat} {nx vc : Value} {s : St} {go mo co t : Nat} {o : List Nat} (h : SrAt w0 wr b gl gf gp base nx n s (.slice (some ⟨go, 0, none⟩) mo co) vc) (hc : s.open' = t :: o) (hm : mo = o.length + 1) (k : Nat) (hk : k = o.length) (hw : w' = (wr.setCell ⟨b, 3, none⟩ (.slice (some ⟨go, 0, none⟩) k co)).drew.drew) :
    SrAt w0 w' b gl gf gp base nx n { s with open' := o } (.slice (some ⟨go, 0, none⟩) k co) vc := by
  obtain ⟨nb1, nb2, nb3⟩ := h.ne_b
  obtain ⟨l0, l1, l2, l3⟩ := h.l0
  have same : ∀ j, j ≠ b → w'.heap[j]? = wr.heap[j]? := fun j hj => by rw [hw]; exact Below.heap_setCell _ _ _ _ hj
  have hca : wr.ownsRow base 3 1 (.slice (some ⟨go, 0, none⟩) mo co) mo (stack s.open') := by
    have h1 := h.op
    have h2 : s.open'.length = mo := by rw [hc, hm]; rfl
    rw [h2] at h1
    exact h1
  have hcut := own_cut hca (k := k) (by omega)
  rw [hc, hk, stack_take] at hcut
  refine ⟨?_, h.lo.of_block (same gl (Ne.symm nb1)), h.fo.of_block (same gf (Ne.symm nb2)), h.pa.of_block (same gp (Ne.symm nb3)), ?_, own_keep h.ca b (own_not_low2 h.ca l0) same, h.n1, h.n2, h.n3, h.l0, h.ge, ?_, ?_⟩
  · rw [hw]
    show (wr.setCell ⟨b, 3, none⟩ (.slice (some ⟨go, 0, none⟩) k co)).heap[b]? = _
    rw [heap_setCell_same wr b 3 _ _ _ h.box]
    rfl
  · rw [hk]
    exact own_keep hcut b (own_not_low2 hcut l0) same
  · rw [hw]
    exact Below.drew (Below.drew (h.bel.setCell (show w0.heap.size ≤ b from h.ge.1) _))
  · rw [hw]
    show base ≤ (wr.setCell ⟨b, 3, none⟩ (.slice (some ⟨go, 0, none⟩) k co)).heap.size
    simp
    exact h.bs
theorem SrAt.setPart {w0 wr w' : World} {b gl gf gp base n : Nat} {nx vo vc : Value} {s : St} (h : SrAt w0 wr b gl gf gp base nx n s vo vc) (u : Nat) (x : Int) (hw : w' = wr.setCell ⟨gp, u, none⟩ (.int .i64 x)) :
    SrAt w0 w' b gl gf gp base nx n { s with part := upd s.part u x } vo vc := by
  obtain ⟨nb1, nb2, nb3⟩ := h.ne_b
  obtain ⟨l0, l1, l2, l3⟩ := h.l0
  have same : ∀ j, j ≠ gp → w'.heap[j]? = wr.heap[j]? := fun j hj => by rw [hw]; exact Below.heap_setCell _ _ _ _ hj
  refine ⟨(same b nb3).trans h.box, h.lo.of_block (same gl h.n2), h.fo.of_block (same gf h.n3), ?_, own_keep h.op gp (own_not_low2 h.op l3) same, own_keep h.ca gp (own_not_low2 h.ca l3) same, h.n1, h.n2, h.n3, h.l0, h.ge, ?_, ?_⟩
  · rw [hw]
    exact rowIs_upd (f' := fun j => .int .i64 (upd s.part u x j)) h.pa u _ fun j hj => by
      unfold upd
      split <;> rfl
  · rw [hw]
    exact h.bel.setCell (show w0.heap.size ≤ gp from h.ge.2.2.2) _
  · rw [hw]
    simp
    exact h.bs

set_option maxRecDepth 100000 in
theorem gLeave_calls (w0 wr : World) (b gl gf gp base : Nat) (nx : Value) (n : Nat) (s : St) (vo vc : Value) (v i : Nat) (cs : List (Nat × Nat)) (hs : SrAt w0 wr b gl gf gp base nx n s vo vc) (hc : s.calls = (v, i) :: cs) (hv : v ∈ s.open') (hop : ∀ x ∈ s.open', x < n) (hcs : ∀ c ∈ cs, c.1 < n) (ho : s.open'.length ≤ 8193) (hcl : s.calls.length ≤ 8193) :
    Calls Tryd.prog 111 #[.pointer (some ⟨b, 0, none⟩), .int .i64 v] wr fun e w' => e = .returned (.tuple #[]) ∧ ∃ vo' vc', SrAt w0 w' b gl gf gp base nx n s.leave vo' vc' := by
  obtain ⟨k, hk⟩ : ∃ k, k = cs.length := ⟨_, rfl⟩
  obtain ⟨mc, hmc⟩ : ∃ mc, mc = s.calls.length := ⟨_, rfl⟩
  have hmk : mc = k + 1 := by rw [hmc, hc, hk]; rfl
  have hca : wr.ownsRow base 170 2 vc mc (frames s.calls) := by rw [hmc]; exact hs.ca
  obtain ⟨gc, cc, rfl, _, hgc, hcc, _⟩ := own_form hca (by omega)
  obtain ⟨c0, c1, c2, c3, c4, c5, c6, cz⟩ := cells7 hs.box
  have z5 := cz 5
  have hvn := hop v hv
  have HS := hid hs
  have HC := hid hc
  have HK := hid hk
  have HMC := hid hmc
  have HOP := hid hop
  have HCS := hid hcs
  have hkl : k ≤ 8193 := by omega
  have emk : (mc : Int) - 1 = (k : Int) := by omega
  have hkm : k ≤ cc := by omega
  clear cz hs hc hk hmc hca hop hcs hmk
  go_enter Tryd.func111, Tryd.ntmps111
  go_wp2_with fail
  go_region
  obtain ⟨w1, hw1⟩ : ∃ w1, w1 = (wr.setCell ⟨b, 5, none⟩ (.slice (some ⟨gc, 0, none⟩) k cc)).drew := ⟨_, rfl⟩
  rw [← hw1]
  have S1 := hid (HS.out.pop HC.out (by rw [HMC.out, HC.out]; rfl) k HK.out hw1)
  obtain ⟨d0, d1, d2, d3, d4, d5, d6, dz⟩ := cells7 S1.out.box
  clear hw1 c0 c1 c2 c3 c4 c5 c6 z5 dz
  go_upto_if 27 with (fail)
  go_cut [] (fun wx => SrAt w0 wx b gl gf gp base nx n { s with calls := cs, low := lowUp s v cs } vo (.slice (some ⟨gc, 0, none⟩) k cc))
  case first =>
    cases cs with
    | nil =>
      have hk0 : k = 0 := HK.out
      subst hk0
      have S2 := hid S1.out
      go_wp2_with fail
      go_meet
      case rel => exact S2.out
    | cons c cs' =>
      obtain ⟨u, j⟩ := c
      obtain ⟨q, hq⟩ : ∃ q, q = cs'.length := ⟨_, rfl⟩
      have hkq : k = q + 1 := by rw [HK.out, hq]; rfl
      have hca1 : w1.ownsRow base 170 2 (.slice (some ⟨gc, 0, none⟩) k cc) ((u, j) :: cs').length (frames ((u, j) :: cs')) := S1.out.ca
      rw [← HK.out] at hca1
      have hcq := hca1.cellAt (q * 2) (by omega)
      rw [show (frames ((u, j) :: cs'))[q * 2]? = some (iV u) by rw [hq]; exact (frames_at cs' rfl).1] at hcq
      clear hca1
      have hun : u < n := HCS.out (u, j) (by simp)
      have ekq : (k : Int) - 1 = (q : Int) := by omega
      have hqk : q < k := by omega
      have hk0 : 0 < k := by omega
      have e1 := S1.out.lo.cell hun
      have e2 := S1.out.lo.cell hvn
      have e3 := S1.out.lo.frozen u
      have HQ := hid hq
      clear hq hkq
      go_wp2_with fail
      go_region
      have ew : (if s.low v < s.low u then ((s.low v : Nat) : Int) else ((s.low u : Nat) : Int)) = ((min (s.low u) (s.low v) : Nat) : Int) := by split <;> omega
      have S2 := hid (S1.out.setLow u (min (s.low u) (s.low v)) (lowUp s v ((u, j) :: cs')) (fun x _ => rfl) rfl)
      rw [ew]
      generalize (w1.setCell ⟨gl, u, none⟩ (.int .i64 ((min (s.low u) (s.low v) : Nat) : Int))).drew = w2 at *
      go_wp2_with fail
      go_meet
      case rel => exact S2.out
  case rest =>
    have HLV := hid (leave_eq HC.out)
    obtain ⟨a, ha⟩ : ∃ a, a = lowUp s v cs v := ⟨_, rfl⟩
    obtain ⟨f, hf⟩ : ∃ f, f = s.found v := ⟨_, rfl⟩
    have e1 : wc.cell? ⟨gl, v, none⟩ = some (iV a) := by rw [ha]; exact hcut.lo.cell hvn
    have e2 : wc.cell? ⟨gf, v, none⟩ = some (iV f) := by rw [hf]; exact hcut.fo.cell hvn
    have HCUT := hid hcut
    have HA := hid ha
    have HF := hid hf
    obtain ⟨d0, d1, d2, d3, d4, d5, d6, dz⟩ := cells7 hcut.box
    clear hcut dz ha hf
    by_cases he : a = f
    · subst he
      have HL2 : Hid (s.leave = { s with calls := cs, low := lowUp s v cs, open' := (closeL v s.open' s.part).1, part := (closeL v s.open' s.part).2 }) := by
        show _ = _
        rw [HLV.out, if_neg]
        rw [← HA.out, ← HF.out]
        simp
      go_wp2_with fail
      go_region
      generalize hw2 : wc.drew = w2
      have S2 : Hid (SrAt w0 w2 b gl gf gp base nx n { s with calls := cs, low := lowUp s v cs } vo (.slice (some ⟨gc, 0, none⟩) k cc)) := by
        have h := HCUT.out
        show SrAt _ _ _ _ _ _ _ _ _ _ _ _
        rw [← hw2]
        exact ⟨h.box, h.lo, h.fo, h.pa, h.op, h.ca, h.n1, h.n2, h.n3, h.l0, h.ge, Below.drew h.bel, h.bs⟩
      clear hw2 d0 d1 d2 d3 d4 d5 d6 e1 e2 HCUT
      go_wp2_with fail
      go_loopg [] s.open'.length (fun m wr => ∃ (o : List Nat) (p : Nat → Int) (vo' : Value), o.length = m ∧ v ∈ o ∧ (∀ x ∈ o, x < n) ∧ closeL v o p = closeL v s.open' s.part ∧ o.length ≤ 8193 ∧
        SrAt w0 wr b gl gf gp base nx n { s with calls := cs, low := lowUp s v cs, open' := o, part := p } vo' (.slice (some ⟨gc, 0, none⟩) k cc))
      case atStart => exact ⟨s.open', s.part, vo, rfl, hv, HOP.out, rfl, ho, S2.out⟩
      case round =>
        obtain ⟨o, p, vo', hm, hvo, hon, hcl2, hol, S3⟩ := hrel
        cases o with
        | nil => cases hvo
        | cons t o =>
          obtain ⟨q, hq⟩ : ∃ q, q = o.length := ⟨_, rfl⟩
          obtain ⟨mo, hmo⟩ : ∃ mo, mo = q + 1 := ⟨_, rfl⟩
          have hop1 : wr.ownsRow base 3 1 vo' mo (stack (t :: o)) := by
            have h1 : wr.ownsRow base 3 1 vo' (t :: o).length (stack (t :: o)) := S3.op
            rw [show (t :: o).length = mo by rw [hmo, hq]; rfl] at h1
            exact h1
          obtain ⟨g3, co, rfl, _, hgo, hco, _⟩ := own_form hop1 (by omega)
          have hct := hop1.cellAt q (by omega)
          rw [show (stack (t :: o))[q]? = some (iV t) by rw [hq]; exact stack_at t o] at hct
          have emq : (mo : Int) - 1 = (q : Int) := by omega
          have hqm : q < mo := by omega
          have hqc : q ≤ co := by omega
          have htn : t < n := hon t (by simp)
          obtain ⟨d0, d1, d2, d3, d4, d5, d6, dz⟩ := cells7 S3.box
          have dz3 := dz 3
          have hmo2 : mo ≤ 8194 := by simp at hol; omega
          have S3' := hid S3
          have HM := hid hm
          have HQ := hid hq
          have HMO : Hid (mo = o.length + 1) := by show _ = _; rw [hmo, hq]
          have HVO := hid hvo
          have HON := hid hon
          have HCL2 := hid hcl2
          have HOL := hid hol
          clear S3 hm hq hmo hvo hon hcl2 hol hop1 dz
          go_wp2_with fail
          go_region
          go_wp2_with fail
          go_region
          have S4 := hid (S3'.out.popOpen rfl HMO.out q HQ.out rfl)
          generalize (wr.setCell ⟨b, 3, none⟩ (.slice (some ⟨g3, 0, none⟩) q co)).drew.drew = w4 at *
          obtain ⟨d0, d1, d2, d3, d4, d5, d6, dz⟩ := cells7 S4.out.box
          have e1 := S4.out.pa.cell htn
          have e2 := S4.out.pa.frozen t
          have S5 := hid (S4.out.setPart t (v : Int) rfl)
          by_cases htv : t = v
          · obtain rfl : v = t := htv.symm
            have HCE : Hid (closeL v (v :: o) p = (o, upd p v (v : Int))) := by show _ = _; unfold closeL; rw [if_pos rfl]
            clear htv
            go_wp2_with fail
            refine bodyPost_ret (results_none rfl _ _ _) rfl ?_
            refine ⟨rfl, .slice (some ⟨g3, 0, none⟩) q co, .slice (some ⟨gc, 0, none⟩) k cc, ?_⟩
            rw [HL2.out, ← HCL2.out, HCE.out]
            exact S5.out
          · have HTV := hid htv
            have hb1 : ((t : Int) == (v : Int)) = false := by simp; omega
            have hb2 : decide ((t : Int) = (v : Int)) = false := decide_eq_false (by omega)
            have HCE : Hid (closeL v (t :: o) p = closeL v o (upd p t (v : Int))) := by show _ = _; rw [closeL, if_neg htv]
            clear htv
            go_wp2_with fail
            go_roundg q
            case measure => have := HM.out; simp at this; have := HQ.out; omega
            case rel =>
              refine ⟨o, upd p t (v : Int), _, HQ.out.symm, ?_, fun x hx => HON.out x (List.mem_cons_of_mem _ hx), ?_, ?_, S5.out⟩
              · rcases List.mem_cons.1 HVO.out with h | h
                · exact absurd h.symm HTV.out
                · exact h
              · rw [← HCE.out]; exact HCL2.out
              · have := HOL.out; simp at this; omega
    · have hb : ((a : Int) != (f : Int)) = true := by simp; omega
      have hb' : decide ((a : Int) = (f : Int)) = false := decide_eq_false (by omega)
      have HL2 : Hid (s.leave = { s with calls := cs, low := lowUp s v cs }) := by
        show _ = _
        rw [HLV.out, if_pos]
        rw [← HA.out, ← HF.out]
        exact he
      have HE := hid he
      clear he
      go_wp2_with fail
      go_region
      go_wp2_with fail
      refine bodyPost_ret (results_none rfl _ _ _) rfl ?_
      refine ⟨rfl, vo, .slice (some ⟨gc, 0, none⟩) k cc, ?_⟩
      rw [HL2.out]
      have h := HCUT.out
      exact ⟨h.box, h.lo, h.fo, h.pa, h.op, h.ca, h.n1, h.n2, h.n3, h.l0, h.ge, Below.drew h.bel, h.bs⟩
end Go.Proofs.YtapebbejdgeijaaDoor
