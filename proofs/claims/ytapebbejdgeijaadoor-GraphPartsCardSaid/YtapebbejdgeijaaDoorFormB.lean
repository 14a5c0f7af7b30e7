/- package forms: made. -/
import Derived.Test.YtapebbejdgeijaaDoorFormA
import Derived.Test.YtapebbejdgeijaaDoorCell3
namespace Go.Proofs.YtapebbejdgeijaaDoor
open Go.RowKit Go.Extern.Stop Go.Stop Go.Extern Go.Deep

/-- What 'made' hands back. -/
def RuleNew (w : World) (k R : Int) (T : List Int) (e : Ending) (w' : World) : Prop :=
  ∃ A c, e = .returned (.agg #[.int .i64 k, .int .i64 R, .slice A T.length c]) ∧ w'.ownsRow w.heap.size 3 1 (.slice A T.length c) T.length (T.map (Value.int .i64)) ∧ Below w.heap.size w w'

def tabAt (f : Nat → Int) (z j : Nat) : List Int := (List.range j).map f ++ List.replicate (z - j) 0
theorem tabAt_length (f : Nat → Int) {z j : Nat} (h : j ≤ z) : (tabAt f z j).length = z := by simp [tabAt]; omega
theorem tabAt_zero (f : Nat → Int) (z : Nat) : tabAt f z 0 = List.replicate z 0 := by simp [tabAt]
theorem tabAt_full (f : Nat → Int) (z : Nat) : tabAt f z z = (List.range z).map f := by simp [tabAt]
theorem tabAt_step (f : Nat → Int) {z j : Nat} (h : j < z) : (tabAt f z j).set j (f j) = tabAt f z (j + 1) := by
  unfold tabAt
  rw [List.set_append_right _ _ (by simp), List.length_map, List.length_range, Nat.sub_self, List.range_succ, List.map_append, List.append_assoc]
  congr 1
  obtain ⟨q, hq⟩ : ∃ q, z - j = q + 1 := ⟨z - j - 1, by omega⟩
  rw [hq, List.replicate_succ, List.set_cons_zero, show z - (j + 1) = q by omega]
  rfl

theorem wrap_div {y k : Nat} (hy : y ≤ 65536) : wrap64 ((y : Int) / (k : Int)) = ((y / k : Nat) : Int) := by
  rw [← Int.natCast_ediv]
  have := Nat.div_le_self y k
  generalize y / k = u at *
  exact IntWalk.wrap64_in _ (by omega)
/-! ### a block of ints -/
def IntBlk (w : World) (g : Nat) (xs : List Int) : Prop := w.heap[g]? = some (.cells (xs.map (Value.int .i64)).toArray 3 (0, 0))
theorem IntBlk.lt {w : World} {g : Nat} {xs : List Int} (h : IntBlk w g xs) : g < w.heap.size := (Array.getElem?_eq_some_iff.1 h).1
theorem IntBlk.cell {w : World} {g : Nat} {xs : List Int} (h : IntBlk w g xs) {j : Nat} {x : Int} (hx : xs[j]? = some x) : w.cell? ⟨g, j, none⟩ = some (.int .i64 x) := by
  unfold IntBlk at h
  simp [World.cell?, h, hx]
theorem IntBlk.fz {w : World} {g : Nat} {xs : List Int} (h : IntBlk w g xs) (j : Nat) : w.frozen? ⟨g, j, none⟩ = false := by
  unfold IntBlk at h
  simp [World.frozen?, h]
theorem IntBlk.set {w : World} {g : Nat} {xs : List Int} (h : IntBlk w g xs) (j : Nat) (x : Int) : IntBlk (w.setCell ⟨g, j, none⟩ (.int .i64 x)) g (xs.set j x) := by
  unfold IntBlk at h ⊢
  rw [heap_setCell_same w g j _ _ _ h, List.map_set]
  simp
theorem IntBlk.ri {w : World} {g : Nat} {xs : List Int} (h : IntBlk w g xs) (hm : xs.length ≤ 9223372036854775807) : RI w .i64 (some ⟨g, 0, none⟩) xs := ri_block h hm
theorem IntBlk.own {w : World} {g : Nat} {xs : List Int} (h : IntBlk w g xs) {base n : Nat} (hn : xs.length = n) (hb : base ≤ g) (hm : n ≤ 9223372036854775807) : w.ownsRow base 3 1 (.slice (some ⟨g, 0, none⟩) n n) n (xs.map (Value.int .i64)) :=
  own_block h n (by rw [List.length_map]; exact hn) hb hm
theorem IntBlk.made (w : World) (n : Nat) : IntBlk (w.alloc (.cells (madeCells #[.int .i64 0] n) 3)) w.heap.size (List.replicate n 0) := by
  unfold IntBlk
  rw [heap_alloc_new]
  congr 2
  exact Array.ext' (by rw [toList_madeCells_one]; simp)
theorem IntBlk.of_heap {w w' : World} {g : Nat} {xs : List Int} (h : IntBlk w g xs) (e : w'.heap[g]? = w.heap[g]?) : IntBlk w' g xs := e.trans h

structure MadeAt (w wr : World) (k R : Nat) (z n : Nat) (tab : List Int) (ys : List Nat) : Prop where
  r6 : wr.heap[w.heap.size]? = some (.cells #[.int .i64 0, .int .i64 0, .slice none 0 0] 57 (0, 0))
  tb : IntBlk wr (w.heap.size + 1) tab
  ob : wr.heap[w.heap.size + 1 + 1]? = some (.cells #[.int .i64 k, .int .i64 R, .slice (some ⟨w.heap.size + 1, 0, none⟩) z z] 57 (0, 0))
  wb : IntBlk wr (w.heap.size + 1 + 1 + 1) (ints ys)
  lt : tab.length = z
  ly : ys.length = n
  bel : Below w.heap.size w wr

theorem MadeAt.start (w : World) (k R z n : Nat) : MadeAt w ((((w.alloc (.cells #[.int .i64 0, .int .i64 0, .slice none 0 0] 57)).alloc (.cells (madeCells #[.int .i64 0] z) 3)).alloc (.cells #[.int .i64 k, .int .i64 R, .slice (some ⟨w.heap.size + 1, 0, none⟩) z z] 57)).alloc (.cells (madeCells #[.int .i64 0] n) 3)) k R z n (List.replicate z 0) (List.replicate n 0) where
  r6 := by
    rw [Below.heap_alloc _ _ _ (by simp only [World.size_alloc]; omega), Below.heap_alloc _ _ _ (by simp only [World.size_alloc]; omega), Below.heap_alloc _ _ _ (by simp only [World.size_alloc]; omega)]
    exact heap_alloc_new w _
  tb := by
    refine IntBlk.of_heap (w := (w.alloc (.cells #[.int .i64 0, .int .i64 0, .slice none 0 0] 57)).alloc (.cells (madeCells #[.int .i64 0] z) 3)) ?_ ?_
    · have h := IntBlk.made (w.alloc (.cells #[.int .i64 0, .int .i64 0, .slice none 0 0] 57)) z
      rw [World.size_alloc] at h
      exact h
    · rw [Below.heap_alloc _ _ _ (by simp only [World.size_alloc]; omega), Below.heap_alloc _ _ _ (by simp only [World.size_alloc]; omega)]
  ob := by
    rw [Below.heap_alloc _ _ _ (by simp only [World.size_alloc]; omega)]
    have h := heap_alloc_new ((w.alloc (.cells #[.int .i64 0, .int .i64 0, .slice none 0 0] 57)).alloc (.cells (madeCells #[.int .i64 0] z) 3)) (.cells #[.int .i64 k, .int .i64 R, .slice (some ⟨w.heap.size + 1, 0, none⟩) z z] 57)
    rw [World.size_alloc, World.size_alloc] at h
    exact h
  wb := by
    have h := IntBlk.made (((w.alloc (.cells #[.int .i64 0, .int .i64 0, .slice none 0 0] 57)).alloc (.cells (madeCells #[.int .i64 0] z) 3)).alloc (.cells #[.int .i64 k, .int .i64 R, .slice (some ⟨w.heap.size + 1, 0, none⟩) z z] 57)) n
    rw [World.size_alloc, World.size_alloc, World.size_alloc] at h
    rw [show ints (List.replicate n 0) = List.replicate n 0 by simp [ints]]
    exact h
  lt := List.length_replicate
  ly := List.length_replicate
  bel := (((below_new w _).alloc (by simp only [World.size_alloc]; omega) _).alloc (by simp only [World.size_alloc]; omega) _).alloc (by simp only [World.size_alloc]; omega) _
theorem MadeAt.below {w wr w' : World} {k R z n : Nat} {tab : List Int} {ys : List Nat} (h : MadeAt w wr k R z n tab ys) (hb : Below wr.heap.size wr w') : MadeAt w w' k R z n tab ys where
  r6 := (hb.block _ (Array.getElem?_eq_some_iff.1 h.r6).1).trans h.r6
  tb := h.tb.of_heap (hb.block _ h.tb.lt)
  ob := (hb.block _ (Array.getElem?_eq_some_iff.1 h.ob).1).trans h.ob
  wb := h.wb.of_heap (hb.block _ h.wb.lt)
  lt := h.lt
  ly := h.ly
  bel := below_then h.bel hb h.bel.size
theorem MadeAt.setW {w wr : World} {k R z n : Nat} {tab : List Int} {ys : List Nat} (h : MadeAt w wr k R z n tab ys) (j d : Nat) : MadeAt w (wr.setCell ⟨w.heap.size + 1 + 1 + 1, j, none⟩ (.int .i64 (d : Int))) k R z n tab (ys.set j d) where
  r6 := (Below.heap_setCell _ _ _ _ (by simp only; omega)).trans h.r6
  tb := h.tb.of_heap (Below.heap_setCell _ _ _ _ (by simp only; omega))
  ob := (Below.heap_setCell _ _ _ _ (by simp only; omega)).trans h.ob
  wb := by
    have := h.wb.set j (d : Int)
    rw [show ints (ys.set j d) = (ints ys).set j (d : Int) by simp [ints, List.map_set]]
    exact this
  lt := h.lt
  ly := by rw [List.length_set]; exact h.ly
  bel := Below.setCell h.bel (by simp only; omega) _
theorem MadeAt.setT {w wr : World} {k R z n : Nat} {tab : List Int} {ys : List Nat} (h : MadeAt w wr k R z n tab ys) (j : Nat) (x : Int) : MadeAt w (wr.setCell ⟨w.heap.size + 1, j, none⟩ (.int .i64 x)) k R z n (tab.set j x) ys where
  r6 := (Below.heap_setCell _ _ _ _ (by simp only; omega)).trans h.r6
  tb := h.tb.set j x
  ob := (Below.heap_setCell _ _ _ _ (by simp only; omega)).trans h.ob
  wb := h.wb.of_heap (Below.heap_setCell _ _ _ _ (by simp only; omega))
  lt := by rw [List.length_set]; exact h.lt
  ly := h.ly
  bel := Below.setCell h.bel (by simp only; omega) _
theorem MadeAt.drewN {w wr : World} {k R z n : Nat} {tab : List Int} {ys : List Nat} (h : MadeAt w wr k R z n tab ys) (q : Nat) : MadeAt w (wr.drewN q) k R z n tab ys := h.below (below_drawn (Below.refl _ _) q)

set_option maxRecDepth 100000 in
theorem made_calls (w : World) (k R : Nat) (hk1 : 1 ≤ k) (hk4 : k ≤ 4) (hR : R ≤ 3) (F : Nat) (cap : Array Value) (f : Nat → Int) (he : Enters Tryd.prog F)
    (hf : ∀ (W : World) (g i : Nat), Below w.heap.size w W → i < sz k R → RI W .i64 (some ⟨g, 0, none⟩) (ints (digs k (2 * R + 1) i)) → Calls Tryd.prog F (#[.slice (some ⟨g, 0, none⟩) (2 * R + 1) (2 * R + 1)] ++ cap) W fun e W' => e = .returned (.int .i64 (f i)) ∧ Below W.heap.size W W') :
    Calls Tryd.prog 97 #[.int .i64 k, .int .i64 R, .func (.func F) #[] cap] w (RuleNew w k R ((List.range (sz k R)).map f)) := by
  have HF := hid hf
  have hen : ∀ (args : Array Value) (W : World), (callFunc F args).run Tryd.prog W = .ok (.enter F args) W := he
  clear he hf
  have hzb : sz k R ≤ 65536 := pow_small hk4 hk1 (show 2 * R + 1 ≤ 7 by omega) (by decide)
  obtain ⟨n, hn⟩ : ∃ n, n = 2 * R + 1 := ⟨_, rfl⟩
  have en : 2 * (R : Int) + 1 = (n : Int) := by omega
  have hn7 : n ≤ 7 := by omega
  have hn1 : 1 ≤ n := by omega
  have HN := hid hn
  rw [← hn] at HF
  clear hn
  go_enter Tryd.func97, Tryd.ntmps97
  go_wp2_with fail
  refine (size_calls _ k R hk1 hk4 hR).mono ?_
  rintro e w1 ⟨rfl, rfl⟩
  have HZ : Hid (∃ z, z = sz k R) := ⟨_, rfl⟩
  generalize sz k R = z at *
  have hmz := run_make_row' (P := Tryd.prog) 22 3 (.int .i64 0) 8 Tryd.underlying22 Tryd.infoInt rfl .i64 .i64 z (by omega) (by omega)
  have hmn := run_make_row' (P := Tryd.prog) 22 3 (.int .i64 0) 8 Tryd.underlying22 Tryd.infoInt rfl .i64 .i64 n (by omega) (by omega)
  go_wp2_with fail
  go_loopw [32] (fun i wr => ∃ (j : Nat) (ys : List Nat), j ≤ z ∧ i = .int .i64 j ∧ MadeAt w wr k R z n (tabAt f z j) ys) (fun i _ => z - (intOf i).toNat)
  case atStart => exact ⟨0, _, Nat.zero_le _, rfl, by rw [tabAt_zero]; exact MadeAt.start w k R z n⟩
  case round =>
    obtain ⟨j, ys, hj, rfl, hM⟩ := hrel
    have HM := hid hM
    clear hM
    by_cases hlt : j < z
    · generalize wr = w3 at *
      have hji : j < 65536 := by omega
      go_wp2_with fail
      go_loopw [38, 12] (fun i x wr => ∃ (q y : Nat) (ys : List Nat), q ≤ n ∧ i = .int .i64 q ∧ y = j / k ^ q ∧ x = .int .i64 y ∧ ys.drop (n - q) = digs k q j ∧ MadeAt w wr k R z n (tabAt f z j) ys) (fun i _ _ => n - (intOf i).toNat)
      case atStart => exact ⟨0, j, ys, Nat.zero_le _, rfl, by simp, rfl, by rw [Nat.sub_zero, ← HM.out.ly, List.drop_length]; rfl, HM.out⟩
      case round =>
        obtain ⟨q, y, ys, hq, rfl, hy, rfl, hd, hM⟩ := hrel
        have HMq := hid hM
        have HY := hid hy
        have HD := hid hd
        have hyb : y ≤ 65536 := by rw [hy]; exact Nat.le_trans (Nat.div_le_self _ _) (Nat.le_of_lt hji)
        clear hM hy hd
        by_cases hlt2 : q < n
        · obtain ⟨p, hp⟩ : ∃ p, p = n - 1 - q := ⟨_, rfl⟩
          have ep : (n : Int) - 1 - (q : Int) = (p : Int) := by omega
          have hpn : p < n := by omega
          have HP := hid hp
          clear hp
          obtain ⟨v0, hv0⟩ : ∃ v0, (ints ys)[p]? = some v0 := ⟨_, List.getElem?_eq_getElem (by rw [List.length_map, HMq.out.ly]; exact hpn)⟩
          have hc := HMq.out.wb.cell hv0
          have hfz := HMq.out.wb.fz p
          clear hv0
          go_wp2_with fail
          go_roundw
          case measure => simp [intOf]; omega
          case rel =>
            refine ⟨q + 1, j / k ^ (q + 1), ys.set p (y % k), by omega, by go_num, rfl, ?_, ?_, ?_⟩
            · rw [wrap_div hyb, HY.out, Nat.div_div_eq_div_mul, ← Nat.pow_succ]
            · rw [HP.out, HY.out]
              exact digs_step k n q j ys HMq.out.ly hlt2 HD.out
            · rw [← Int.natCast_emod]
              exact HMq.out.setW p (y % k)
        · obtain rfl : q = n := by omega
          have hys : ys = digs k q j := by have := HD.out; rw [Nat.sub_self, List.drop_zero] at this; exact this
          have HCL : Hid (∀ W, Below wr.heap.size wr W → Calls Tryd.prog F (#[.slice (some ⟨w.heap.size + 1 + 1 + 1, 0, none⟩) q q] ++ cap) W fun e W' => e = .returned (.int .i64 (f j)) ∧ Below W.heap.size W W') := fun W hW =>
            HF.out W (w.heap.size + 1 + 1 + 1) j (below_then HMq.out.bel hW HMq.out.bel.size) hlt (((hys ▸ HMq.out.wb).of_heap (hW.block _ HMq.out.wb.lt)).ri (by rw [List.length_map, digs_length]; omega))
          obtain ⟨v1, hv1⟩ : ∃ v1, (tabAt f z j)[j]? = some v1 := ⟨_, List.getElem?_eq_getElem (by rw [HMq.out.lt]; exact hlt)⟩
          have HV1 := hid hv1
          have c2 := (cells3 HMq.out.ob).2.2
          clear hys hv1
          go_wp2_with fail
          go_region_held3 (fun w' => w'.cell? ⟨w.heap.size + 1 + 1, 2, none⟩ = some (.slice (some ⟨w.heap.size + 1, 0, none⟩) z z)) (first | go_keep | assumption)
            (first | (go_at_fn F; refine (HCL.out _ (below_drawn (Below.refl _ _) 1)).mono ?_; rintro e w2 ⟨rfl, hb2⟩; have HM2 := hid (HMq.out.below ⟨hb2.os, hb2.tape, hb2.output, hb2.size, hb2.block⟩); have hd2 := (cells3 HM2.out.ob).2.2; have hct := HM2.out.tb.cell HV1.out; have hft := HM2.out.tb.fz j; clear hb2))
          go_wp2_with fail
          go_roundw
          case measure => simp [intOf]; omega
          case rel => exact ⟨j + 1, _, by omega, by go_num, by rw [← tabAt_step f hlt]; exact HM2.out.setT j (f j)⟩
    · obtain rfl : j = z := by omega
      obtain ⟨k0, k1, k2⟩ := cells3 HM.out.ob
      have H6 : Hid (Cell3 wr w.heap.size 57 (.int .i64 0) (.int .i64 0) (.slice none 0 0)) := HM.out.r6
      obtain ⟨c0, f0, c1, f1, c2, f2, r0, r1, r2⟩ := H6.out.facts (.int .i64 k) (.int .i64 R) (.slice (some ⟨w.heap.size + 1, 0, none⟩) j j)
      have HT : Hid (IntBlk (set3 wr w.heap.size (.int .i64 k) (.int .i64 R) (.slice (some ⟨w.heap.size + 1, 0, none⟩) j j)) (w.heap.size + 1) ((List.range j).map f)) :=
        (tabAt_full f j ▸ HM.out.tb).of_heap (set3_same _ (by omega))
      have hl : ((List.range j).map f).length = j := by simp
      go_wp2_with fail
      refine bodyPost_ret (v := .agg #[.int .i64 k, .int .i64 R, .slice (some ⟨w.heap.size + 1, 0, none⟩) j j]) (by simp [results, Tryd.results97, go_sem, r0, r1, r2]) rfl ?_
      refine ⟨some ⟨w.heap.size + 1, 0, none⟩, j, by rw [hl], ?_, set3_below HM.out.bel (Nat.le_refl _)⟩
      have := HT.out.own (base := w.heap.size) hl (by omega) (by omega)
      rw [hl]
      exact this
end Go.Proofs.YtapebbejdgeijaaDoor
