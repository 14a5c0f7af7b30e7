/- graph.search in memory; enter. -/
import Derived.Test.YtapebbejdgeijaaDoorGrB
import Derived.Deep.OwnRows
import Derived.Deep.Cut
namespace Go.Proofs.YtapebbejdgeijaaDoor
open Go.RowKit Go.Extern.Stop Go.Stop Go.Extern Go.Deep Tar

/-! ### rows told by the index -/
abbrev iV (n : Nat) : Value := .int .i64 (n : Int)
theorem rowIs_of_intBlk {w : World} {g n : Nat} {f : Nat → Int} (h : IntBlk w g (tabI n f)) : w.rowIs g 3 n (fun j => .int .i64 (f j)) := by
  refine ⟨_, h, by simp [tabI_length], fun i hi => ?_⟩
  simp [tabI_at hi]
theorem intBlk_of_rowIs {w : World} {g n : Nat} {f : Nat → Int} (h : w.rowIs g 3 n (fun j => .int .i64 (f j))) : IntBlk w g (tabI n f) := by
  obtain ⟨c, hb, hn, hc⟩ := h
  unfold IntBlk
  rw [hb]
  congr 2
  apply Array.ext'
  apply List.ext_getElem?
  intro i
  by_cases hi : i < n
  · rw [Array.getElem?_toList, hc i hi]
    simp [tabI_at hi]
  · rw [Array.getElem?_toList, Array.getElem?_eq_none (by omega)]
    symm
    rw [List.getElem?_eq_none_iff]
    simp [tabI_length]; omega
theorem rowIs_below {w w' : World} {B g n : Nat} {t : TypeId} {f : Nat → Value} (h : w.rowIs g t n f) (hb : Below B w w') (hg : g < B) : w'.rowIs g t n f := h.of_block (hb.block g hg)
theorem rowIs_other {w : World} {g n k j : Nat} {t : TypeId} {f : Nat → Value} {v : Value} (h : w.rowIs g t n f) (hne : g ≠ k) : (w.setCell ⟨k, j, none⟩ v).rowIs g t n f := h.of_block (Below.heap_setCell _ _ _ _ hne)
theorem rowIs_upd {w : World} {g n : Nat} {t : TypeId} {f f' : Nat → Value} (h : w.rowIs g t n f) (i : Nat) (v : Value) (he : ∀ j, j < n → f' j = if j = i then v else f j) : (w.setCell ⟨g, i, none⟩ v).rowIs g t n f' := (h.set i v).congr fun j hj => (he j hj).symm

/-- The front of an owned row. -/
theorem own_cut {w : World} {base g n cap size : Nat} {e : TypeId} {xs : List Value} (h : w.ownsRow base e size (.slice (some ⟨g, 0, none⟩) n cap) n xs) {k : Nat} (hk : k ≤ n) : w.ownsRow base e size (.slice (some ⟨g, 0, none⟩) k cap) k (xs.take (k * size)) := by
  have hkn : k * size ≤ n * size := Nat.mul_le_mul_right size hk
  refine ⟨by rw [List.length_take, h.1]; omega, ?_⟩
  rcases h.2 with ⟨h0, _⟩ | ⟨g', cap', cur, e1, h2, h3, h4, h5, h6, h7⟩
  · cases h0
  · injection e1 with e1 _ e3
    subst e3
    injection e1 with e1
    injection e1 with e1
    subst e1
    refine .inr ⟨g, cap, cur, rfl, h2, h3, by omega, h5, h6, ?_⟩
    rw [← h7, List.take_take, Nat.min_eq_left hkn]

section
variable {P : Program} {ops : Array Oper} {rest : List Oper} {o : Oper} {a : Act} {Q : Exit → Act → World → Prop}
/-- append(v, y): elements of several cells. -/
theorem appendS {w0 W : World} (base : Nat) (hgd : o.guard = none) (s x : Operand) (t e : TypeId) (z : Value) (size bytes : Nat)
    (ho : o.op = .call { callee := .builtin .append, args := #[s, x], argTypes := #[t, t] })
    (ht : P.underlying t = some (.slice e)) (hinfo : (P.info? e).map (fun i => (i.zero, i.size, i.bytes)) = some (some z, size, bytes)) (hz : z.cells.size = size) (hs0 : 0 < size) (hb0 : 0 < bytes)
    (v : Value) (n : Nat) (xs news : List Value) (hs : a.eval s = v) (hx : a.eval x = .slice (some ⟨W.heap.size, 0, none⟩) 1 1) (hnl : news.length = 1 * size) (h1 : ∀ u ∈ news, u.oneCell' = true)
    (HO : W.ownsRow base e size v n xs) (HB : Below base w0 W) (hbase : base ≤ W.heap.size) (hl : (n + 1) * bytes ≤ 140737488355328)
    (h : ∀ v1 w1, w1.ownsRow base e size v1 (n + 1) (xs ++ news) → Below base w0 w1 → W.grownBy w1 v.ownBlock → (v1.ownBlock = v.ownBlock ∨ ∃ b, v1.ownBlock = some b ∧ W.heap.size ≤ b) → wpList P ops Q rest (a.put o.dst v1) w1) :
    wpList P ops Q (o :: rest) a (W.alloc (.cells news.toArray e)) := by
  obtain ⟨i0, hi, hz0, hz1, hz2⟩ := info_parts hinfo
  have hlen : n + 1 ≤ 140737488355328 := Nat.le_trans (Nat.le_mul_of_pos_right _ hb0) hl
  refine wpList_append_own_at (W.alloc (.cells news.toArray e)) hgd s x t ho base e i0 z size bytes ht hi hz0 hz1 hz2 hz hs0 v n xs hs (HO.alloc _) ⟨W.heap.size, 0, none⟩ 1 1 news hx hnl
    (World.news_of_block (cs := news.toArray) (t := e) (fr := (0, 0)) (heap_alloc_new W _)) h1 (by simp only [maxLen]; omega) hl (by simp; omega) ?_
  intro v1 w1 hown hg _ hat
  refine h v1 w1 hown ((HB.alloc hbase _).grown hg (by simp; omega) (fun k hk => (HO.lt k hk).1)) (World.grownBy.trans (World.grownBy_alloc W _ _) hg) ?_
  rcases hat with hat | hat
  · exact .inl hat
  · exact .inr ⟨_, hat, by simp⟩
end
theorem Tryd.infoFrame : (Tryd.prog.info? 170).map (fun i => (i.zero, i.size, i.bytes)) = some (some (.agg #[.int .i64 0, .int .i64 0]), 2, 16) := by kernel_rfl

def frames (cs : List (Nat × Nat)) : List Value := cs.reverse.flatMap fun c => [iV c.1, iV c.2]
theorem frames_cons (v i : Nat) (cs : List (Nat × Nat)) : frames ((v, i) :: cs) = frames cs ++ [iV v, iV i] := by simp [frames]
theorem frames_length (cs : List (Nat × Nat)) : (frames cs).length = cs.length * 2 := by
  induction cs with
  | nil => rfl
  | cons c cs ih => obtain ⟨v, i⟩ := c; rw [frames_cons, List.length_append, ih]; simp; omega
def stack (l : List Nat) : List Value := l.reverse.map iV
theorem stack_cons (v : Nat) (l : List Nat) : stack (v :: l) = stack l ++ [iV v] := by simp [stack]
theorem stack_length (l : List Nat) : (stack l).length = l.length := by simp [stack]

/-- A search in memory. -/
structure SrAt (w0 wr : World) (b gl gf gp base : Nat) (nx : Value) (n : Nat) (s : St) (vo vc : Value) : Prop where
  box : wr.heap[b]? = some (.cells #[nx, .slice (some ⟨gl, 0, none⟩) n n, .slice (some ⟨gf, 0, none⟩) n n, vo, .slice (some ⟨gp, 0, none⟩) n n, vc, iV s.time] 125 (0, 0))
  lo : wr.rowIs gl 3 n (fun j => iV (s.low j))
  fo : wr.rowIs gf 3 n (fun j => iV (s.found j))
  pa : wr.rowIs gp 3 n (fun j => .int .i64 (s.part j))
  op : wr.ownsRow base 3 1 vo s.open'.length (stack s.open')
  ca : wr.ownsRow base 170 2 vc s.calls.length (frames s.calls)
  n1 : gl ≠ gf
  n2 : gl ≠ gp
  n3 : gf ≠ gp
  l0 : b < base ∧ gl < base ∧ gf < base ∧ gp < base
  ge : w0.heap.size ≤ b ∧ w0.heap.size ≤ gl ∧ w0.heap.size ≤ gf ∧ w0.heap.size ≤ gp
  bel : Below w0.heap.size w0 wr
  bs : base ≤ wr.heap.size

theorem own_not_low2 {w : World} {base size : Nat} {e : TypeId} {n : Nat} {v : Value} {xs : List Value} (h : w.ownsRow base e size v n xs) {g : Nat} (hg : g < base) : some g ≠ v.ownBlock := by
  rcases h.2 with ⟨rfl, _⟩ | ⟨g', cap, cur, rfl, _, hb, _⟩
  · intro e; cases e
  · intro e
    have e1 : g = g' := by simpa [Value.ownBlock] using e
    omega
theorem cells7 {w : World} {b : Nat} {v0 v1 v2 v3 v4 v5 v6 : Value} {t : TypeId} (h : w.heap[b]? = some (.cells #[v0, v1, v2, v3, v4, v5, v6] t (0, 0))) :
    w.cell? ⟨b, 0, none⟩ = some v0 ∧ w.cell? ⟨b, 1, none⟩ = some v1 ∧ w.cell? ⟨b, 2, none⟩ = some v2 ∧ w.cell? ⟨b, 3, none⟩ = some v3 ∧ w.cell? ⟨b, 4, none⟩ = some v4 ∧ w.cell? ⟨b, 5, none⟩ = some v5 ∧ w.cell? ⟨b, 6, none⟩ = some v6 ∧ ∀ j, w.frozen? ⟨b, j, none⟩ = false := by
  refine ⟨by simp [World.cell?, h], by simp [World.cell?, h], by simp [World.cell?, h], by simp [World.cell?, h], by simp [World.cell?, h], by simp [World.cell?, h], by simp [World.cell?, h], fun j => by simp [World.frozen?, h]⟩

theorem SrAt.ne_b {w0 wr : World} {b gl gf gp base n : Nat} {nx vo vc : Value} {s : St} (h : SrAt w0 wr b gl gf gp base nx n s vo vc) : b ≠ gl ∧ b ≠ gf ∧ b ≠ gp := by
  have key : ∀ g f, wr.rowIs g 3 n f → b ≠ g := fun g f hr e => by
    obtain ⟨c, hc, _⟩ := hr
    rw [← e, h.box] at hc
    injection hc with hc
    injection hc with _ hc
    exact absurd hc (by decide)
  exact ⟨key _ _ h.lo, key _ _ h.fo, key _ _ h.pa⟩

set_option maxRecDepth 100000 in
theorem gEnter_calls (w0 wr : World) (b gl gf gp base : Nat) (nx : Value) (n : Nat) (s : St) (vo vc : Value) (v : Nat) (hs : SrAt w0 wr b gl gf gp base nx n s vo vc) (hv : v < n) (ht : s.time ≤ 8193) (ho : s.open'.length ≤ 8193) (hcl : s.calls.length ≤ 8193) :
    Calls Tryd.prog 110 #[.pointer (some ⟨b, 0, none⟩), .int .i64 v] wr fun e w' => e = .returned (.tuple #[]) ∧ ∃ vo' vc', SrAt w0 w' b gl gf gp base nx n (s.enter v) vo' vc' := by
  obtain ⟨c0, c1, c2, c3, c4, c5, c6, cz⟩ := cells7 hs.box
  obtain ⟨nb1, nb2, nb3⟩ := hs.ne_b
  have f6 := cz 6
  obtain ⟨T, hT⟩ : ∃ T, T = s.time := ⟨_, rfl⟩
  have HS := hid hs
  have HT := hid hT
  have hT1 : T ≤ 8193 := by omega
  have c6' : wr.cell? ⟨b, 6, none⟩ = some (.int .i64 (T : Int)) := by rw [hT]; exact c6
  clear cz hT c6 hs
  go_enter Tryd.func110, Tryd.ntmps110
  go_wp2_with fail
  obtain ⟨w1, hw1⟩ : ∃ w1, w1 = wr.setCell ⟨b, 6, none⟩ (.int .i64 ((T : Int) + 1)) := ⟨_, rfl⟩
  rw [← hw1]
  obtain ⟨l0, l1, l2, l3⟩ := HS.out.l0
  have B1 : w1.heap[b]? = some (.cells #[nx, .slice (some ⟨gl, 0, none⟩) n n, .slice (some ⟨gf, 0, none⟩) n n, vo, .slice (some ⟨gp, 0, none⟩) n n, vc, .int .i64 ((T : Int) + 1)] 125 (0, 0)) := by
    rw [hw1, heap_setCell_same wr b 6 _ _ _ HS.out.box]; rfl
  have L1 : w1.rowIs gl 3 n (fun j => iV (s.low j)) := by rw [hw1]; exact rowIs_other HS.out.lo (Ne.symm nb1)
  have F1 : w1.rowIs gf 3 n (fun j => iV (s.found j)) := by rw [hw1]; exact rowIs_other HS.out.fo (Ne.symm nb2)
  have P1 : w1.rowIs gp 3 n (fun j => .int .i64 (s.part j)) := by rw [hw1]; exact rowIs_other HS.out.pa (Ne.symm nb3)
  have O1 : w1.ownsRow base 3 1 vo s.open'.length (stack s.open') := by rw [hw1]; exact own_keep HS.out.op b (own_not_low2 HS.out.op l0) (fun j hj => Below.heap_setCell _ _ _ _ (show j ≠ b from hj))
  have C1 : w1.ownsRow base 170 2 vc s.calls.length (frames s.calls) := by rw [hw1]; exact own_keep HS.out.ca b (own_not_low2 HS.out.ca l0) (fun j hj => Below.heap_setCell _ _ _ _ (show j ≠ b from hj))
  have E1 : Below w0.heap.size w0 w1 := by rw [hw1]; exact HS.out.bel.setCell (show w0.heap.size ≤ b from HS.out.ge.1) _
  have Z1 : base ≤ w1.heap.size := by rw [hw1]; simp; exact HS.out.bs
  have HB1 := hid B1
  have HL1 := hid L1
  have HF1 := hid F1
  have HP1 := hid P1
  have HO1 := hid O1
  have HC1 := hid C1
  have HE1 := hid E1
  have HZ1 := hid Z1
  obtain ⟨d0, d1, d2, d3, d4, d5, d6, dz⟩ := cells7 B1
  have e1 := L1.cell hv
  have e2 := F1.cell hv
  have e3 := L1.frozen v
  have e4 := F1.frozen v
  have n1 := HS.out.n1
  have n1' := Ne.symm n1
  clear hw1 c0 c1 c2 c3 c4 c5 c6' f6 B1 L1 F1 P1 O1 C1 E1 Z1 dz
  go_region
  obtain ⟨w2, hw2⟩ : ∃ w2, w2 = ((w1.setCell ⟨gl, v, none⟩ (.int .i64 ((T : Int) + 1))).setCell ⟨gf, v, none⟩ (.int .i64 ((T : Int) + 1))).drew := ⟨_, rfl⟩
  rw [← hw2]
  have same2 : ∀ k, k ≠ gl → k ≠ gf → w2.heap[k]? = w1.heap[k]? := fun k h1 h2 => by
    rw [hw2]
    show ((w1.setCell ⟨gl, v, none⟩ (.int .i64 ((T : Int) + 1))).setCell ⟨gf, v, none⟩ (.int .i64 ((T : Int) + 1))).heap[k]? = _
    rw [Below.heap_setCell _ _ _ _ (show k ≠ gf from h2), Below.heap_setCell _ _ _ _ (show k ≠ gl from h1)]
  have HB2 : Hid (w2.heap[b]? = _) := (same2 b nb1 nb2).trans HB1.out
  have HL2 : Hid (w2.rowIs gl 3 n (fun j => iV ((s.enter v).low j))) := by
    show World.rowIs _ _ _ _ _
    rw [hw2]
    refine rowIs_other (rowIs_upd (f' := fun j => iV ((s.enter v).low j)) HL1.out v _ fun j _ => ?_) n1
    show iV (upd s.low v (s.time + 1) j) = _
    unfold upd
    split
    · rw [← HT.out]; simp
    · rfl
  have HF2 : Hid (w2.rowIs gf 3 n (fun j => iV ((s.enter v).found j))) := by
    show World.rowIs _ _ _ _ _
    rw [hw2]
    refine rowIs_upd (f' := fun j => iV ((s.enter v).found j)) (rowIs_other HF1.out n1') v _ fun j _ => ?_
    show iV (upd s.found v (s.time + 1) j) = _
    unfold upd
    split
    · rw [← HT.out]; simp
    · rfl
  have HP2 : Hid (w2.rowIs gp 3 n (fun j => .int .i64 (s.part j))) := HP1.out.of_block (same2 gp (Ne.symm HS.out.n2) (Ne.symm HS.out.n3))
  have HO2 : Hid (w2.ownsRow base 3 1 vo s.open'.length (stack s.open')) := by
    show World.ownsRow _ _ _ _ _ _ _
    rw [hw2]
    exact own_keep (own_keep HO1.out gl (own_not_low2 HO1.out l1) (w' := w1.setCell ⟨gl, v, none⟩ (.int .i64 ((T : Int) + 1))) (fun j hj => Below.heap_setCell _ _ _ _ (show j ≠ gl from hj))) gf (own_not_low2 HO1.out l2) (fun j hj => Below.heap_setCell _ _ _ _ (show j ≠ gf from hj))
  have HC2 : Hid (w2.ownsRow base 170 2 vc s.calls.length (frames s.calls)) := by
    show World.ownsRow _ _ _ _ _ _ _
    rw [hw2]
    exact own_keep (own_keep HC1.out gl (own_not_low2 HC1.out l1) (w' := w1.setCell ⟨gl, v, none⟩ (.int .i64 ((T : Int) + 1))) (fun j hj => Below.heap_setCell _ _ _ _ (show j ≠ gl from hj))) gf (own_not_low2 HC1.out l2) (fun j hj => Below.heap_setCell _ _ _ _ (show j ≠ gf from hj))
  have HE2 : Hid (Below w0.heap.size w0 w2) := by
    show Below _ _ _
    rw [hw2]
    exact Below.drew ((HE1.out.setCell (show w0.heap.size ≤ gl from HS.out.ge.2.1) _).setCell (show w0.heap.size ≤ gf from HS.out.ge.2.2.1) _)
  have hz2 : base ≤ w2.heap.size := by
    have h1 := HZ1.out
    rw [hw2]
    show base ≤ ((w1.setCell ⟨gl, v, none⟩ (.int .i64 ((T : Int) + 1))).setCell ⟨gf, v, none⟩ (.int .i64 ((T : Int) + 1))).heap.size
    simp
    exact h1
  obtain ⟨d0, d1, d2, d3, d4, d5, d6, dz⟩ := cells7 HB2.out
  have dz3 := dz 3
  have HN0 : Hid (s.open'.length ≤ 8193 ∧ s.calls.length ≤ 8193) := ⟨ho, hcl⟩
  obtain ⟨m1, hm1⟩ : ∃ m1, m1 = s.open'.length := ⟨_, rfl⟩
  have HM1 := hid hm1
  have hm1l : (m1 + 1) * 8 ≤ 140737488355328 := by omega
  have HO2' : Hid (w2.ownsRow base 3 1 vo m1 (stack s.open')) := hm1 ▸ HO2.out
  have BW2 : Hid (Below base w2 w2) := Below.refl _ _
  clear hw2 same2 e1 e2 e3 e4 dz hm1 ho hcl
  go_upto_region 3 with (at_builtin; refine append1 (w0 := w2) base (by rfl) (.tmp 35) (.tmp 37) 22 3 (.int .i64 0) 8 (by rfl) Tryd.underlying22 Tryd.infoInt (by rfl) (by decide) _ _ _ _ (by rfl) (by rfl) (by rfl) HO2'.out BW2.out hz2 hm1l ?_; intro v3 w3 o3 b3 g3 _; have HO3 := hid o3; have HG3 := hid g3; have HBB3 := hid b3; have hbk := (b3.block b l0).trans HB2.out; obtain ⟨i0, i1, i2, i3, i4, i5, i6, iz⟩ := cells7 hbk; have iz3 := iz 3; have HBK3 := hid hbk; obtain ⟨A3, c3, hv3, _, _⟩ := own_slice o3; subst hv3; clear o3 g3 b3 hbk iz)
  obtain ⟨w4, hw4⟩ : ∃ w4, w4 = w3.setCell ⟨b, 3, none⟩ (.slice A3 (m1 + 1) c3) := ⟨_, rfl⟩
  rw [← hw4]
  have same4 : ∀ j, j ≠ b → w4.heap[j]? = w3.heap[j]? := fun j hj => by rw [hw4]; exact Below.heap_setCell _ _ _ _ hj
  have HB4 : Hid (w4.heap[b]? = some (.cells #[nx, .slice (some ⟨gl, 0, none⟩) n n, .slice (some ⟨gf, 0, none⟩) n n, .slice A3 (m1 + 1) c3, .slice (some ⟨gp, 0, none⟩) n n, vc, .int .i64 ((T : Int) + 1)] 125 (0, 0))) := by
    show _ = _
    rw [hw4, heap_setCell_same w3 b 3 _ _ _ HBK3.out]; rfl
  have HL4 := hid ((rowIs_below HL2.out HBB3.out l1).of_block (same4 gl (Ne.symm nb1)))
  have HF4 := hid ((rowIs_below HF2.out HBB3.out l2).of_block (same4 gf (Ne.symm nb2)))
  have HP4 := hid ((rowIs_below HP2.out HBB3.out l3).of_block (same4 gp (Ne.symm nb3)))
  have HO4 := hid (own_keep HO3.out b (own_not_low2 HO3.out l0) same4)
  have HC4 := hid (own_keep (HC2.out.kept HG3.out (own_type_ne HC2.out HO2'.out (by decide))) b (own_not_low2 (HC2.out.kept HG3.out (own_type_ne HC2.out HO2'.out (by decide))) l0) same4)
  have hwb : w0.heap.size ≤ base := by have := HS.out.ge.1; omega
  have HE4 : Hid (Below w0.heap.size w0 w4) := by
    show Below _ _ _
    rw [hw4]
    exact (HE2.out.trans (HBB3.out.mono hwb)).setCell (show w0.heap.size ≤ b from HS.out.ge.1) _
  have hz4 : base ≤ w4.heap.size := by
    have h1 := HBB3.out.size
    rw [hw4]
    simp
    omega
  obtain ⟨q0, q1, q2, q3, q4, q5, q6, qz⟩ := cells7 HB4.out
  obtain ⟨m2, hm2⟩ : ∃ m2, m2 = s.calls.length := ⟨_, rfl⟩
  have HM2 := hid hm2
  have hm2l : (m2 + 1) * 16 ≤ 140737488355328 := by have := HN0.out.2; omega
  have HC4' : Hid (w4.ownsRow base 170 2 vc m2 (frames s.calls)) := hm2 ▸ HC4.out
  have BW4 : Hid (Below base w4 w4) := Below.refl _ _
  clear hw4 same4 hm2 qz i0 i1 i2 i3 i4 i5 i6 iz3 d0 d1 d2 d3 d4 d5 d6 dz3
  go_wp2_with (at_builtin; refine appendS (w0 := w4) base (by rfl) (.tmp 45) (.tmp 48) 123 170 (.agg #[.int .i64 0, .int .i64 0]) 2 16 (by rfl) Tryd.underlying123 Tryd.infoFrame (by rfl) (by decide) (by decide) vc m2 (frames s.calls) [.int .i64 v, .int .i64 0] (by rfl) (by rfl) (by rfl) (by simp [Value.oneCell']) HC4'.out BW4.out hz4 hm2l ?_; intro v5 w5 o5 b5 g5 _; have HC5 := hid o5; have HG5 := hid g5; have HBB5 := hid b5; have hbk := (b5.block b l0).trans HB4.out; obtain ⟨i0, i1, i2, i3, i4, i5, i6, iz⟩ := cells7 hbk; have iz5 := iz 5; have HBK5 := hid hbk; obtain ⟨A5, c5, hv5, _, _⟩ := own_slice o5; subst hv5; clear o5 g5 b5 hbk iz)
  obtain ⟨w6, hw6⟩ : ∃ w6, w6 = w5.setCell ⟨b, 5, none⟩ (.slice A5 (m2 + 1) c5) := ⟨_, rfl⟩
  rw [← hw6]
  have same6 : ∀ j, j ≠ b → w6.heap[j]? = w5.heap[j]? := fun j hj => by rw [hw6]; exact Below.heap_setCell _ _ _ _ hj
  have HB6 : w6.heap[b]? = some (.cells #[nx, .slice (some ⟨gl, 0, none⟩) n n, .slice (some ⟨gf, 0, none⟩) n n, .slice A3 (m1 + 1) c3, .slice (some ⟨gp, 0, none⟩) n n, .slice A5 (m2 + 1) c5, iV (s.enter v).time] 125 (0, 0)) := by
    rw [hw6, heap_setCell_same w5 b 5 _ _ _ HBK5.out]
    have e : iV (s.enter v).time = .int .i64 ((T : Int) + 1) := by show iV (s.time + 1) = _; rw [← HT.out]; simp
    rw [e]; rfl
  have HL6 := (rowIs_below HL4.out HBB5.out l1).of_block (same6 gl (Ne.symm nb1))
  have HF6 := (rowIs_below HF4.out HBB5.out l2).of_block (same6 gf (Ne.symm nb2))
  have HP6 := (rowIs_below HP4.out HBB5.out l3).of_block (same6 gp (Ne.symm nb3))
  have hne : (Value.slice A3 (m1 + 1) c3).ownBlock = none ∨ (Value.slice A3 (m1 + 1) c3).ownBlock ≠ vc.ownBlock := own_type_ne HO4.out HC4'.out (by decide)
  have HO5 := HO4.out.kept HG5.out hne
  have HO6 := own_keep HO5 b (own_not_low2 HO5 l0) same6
  have HC6 := own_keep HC5.out b (own_not_low2 HC5.out l0) same6
  have HE6 : Below w0.heap.size w0 w6 := by
    rw [hw6]
    exact (HE4.out.trans (HBB5.out.mono hwb)).setCell (show w0.heap.size ≤ b from HS.out.ge.1) _
  have hz6 : base ≤ w6.heap.size := by
    have h1 := HBB5.out.size
    rw [hw6]
    simp
    omega
  go_end0
  have e1 : m1 + 1 = (s.enter v).open'.length := by rw [HM1.out]; rfl
  have e2 : m2 + 1 = (s.enter v).calls.length := by rw [HM2.out]; rfl
  refine ⟨rfl, _, _, HB6, HL6, HF6, HP6, ?_, ?_, HS.out.n1, HS.out.n2, HS.out.n3, HS.out.l0, HS.out.ge, HE6, hz6⟩
  · rw [← e1, show stack (s.enter v).open' = stack s.open' ++ [.int .i64 v] from stack_cons v s.open']
    exact HO6
  · rw [← e2, show frames (s.enter v).calls = frames s.calls ++ [.int .i64 v, .int .i64 0] from frames_cons v 0 s.calls]
    exact HC6
end Go.Proofs.YtapebbejdgeijaaDoor
