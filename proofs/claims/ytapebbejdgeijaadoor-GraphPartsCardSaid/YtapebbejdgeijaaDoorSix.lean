/- The chapter's graph; what the laws of the graphs ask first: answered. -/
import Derived.Test.YtapebbejdgeijaaDoorGrP
import Derived.Test.YtapebbejdgeijaaDoorTarG
import Derived.Test.YtapebbejdgeijaaDoorRaw
namespace Go.Proofs.YtapebbejdgeijaaDoor
open Go.RowKit Go.Extern.Stop Go.Stop Go.Extern Go.Deep Tar

theorem RI.lit (w : World) (xs : List Int) (h : xs.length ≤ 9223372036854775807) : RI (w.alloc (.cells (xs.map (Value.int .i64)).toArray 3)) .i64 (some ⟨w.heap.size, 0, none⟩) xs := by
  obtain ⟨A, c, hv, _, _, hr⟩ := own_ri (own_lit (w := w) (xs.map (Value.int .i64)) 3 xs.length (by simp) h)
  simp only [Value.slice.injEq] at hv
  obtain ⟨rfl, _, _⟩ := hv
  exact hr
theorem ri_of_row {w : World} {g n : Nat} {xs : List Nat} (h : w.rowIs g 3 n (fun j => iV (xs.getD j 0))) (hn : xs.length = n) (hm : n ≤ 9223372036854775807) : RI w .i64 (some ⟨g, 0, none⟩) (ints xs) := by
  refine ⟨by rw [List.length_map, hn]; exact hm, fun _ => ⟨g, 0, rfl, h.lt, fun j x hx => ?_⟩⟩
  rw [List.getElem?_map] at hx
  have hj : j < xs.length := by
    rcases Nat.lt_or_ge j xs.length with h' | h'
    · exact h'
    · rw [List.getElem?_eq_none_iff.2 h'] at hx; cases hx
  rw [List.getElem?_eq_getElem hj] at hx
  obtain rfl := Option.some.inj hx
  rw [Nat.zero_add, h.cell (show j < n by rw [← hn]; exact hj), List.getD_eq_getElem?_getD, List.getElem?_eq_getElem hj]
  rfl

def rowsV (rs : List (Nat × Nat)) : List Value := rs.map fun r => .slice (some ⟨r.1, 0, none⟩) r.2 r.2
theorem RII.lit {w : World} {gs : List (List Int)} (rs : List (Nat × Nat)) (t : TypeId) (hl : gs.length ≤ 9223372036854775807) (hlen : rs.length = gs.length) (h : ∀ (j : Nat) (r : Nat × Nat) (xs : List Int), rs[j]? = some r → gs[j]? = some xs → r.2 = xs.length ∧ RI w .i64 (some ⟨r.1, 0, none⟩) xs) :
    RII (w.alloc (.cells (rowsV rs).toArray t)) .i64 (some ⟨w.heap.size, 0, none⟩) gs := by
  refine ⟨hl, fun _ => ⟨w.heap.size, 0, rfl, by simp, fun j xs hx => ?_⟩⟩
  have hj : j < rs.length := by rw [hlen]; exact (List.getElem?_eq_some_iff.1 hx).1
  obtain ⟨h1, h2⟩ := h j rs[j] xs (List.getElem?_eq_getElem hj) hx
  refine ⟨some ⟨rs[j].1, 0, none⟩, rs[j].2, ?_, by omega, h2.below (below_new w _) (Nat.le_refl _)⟩
  rw [h1, Nat.zero_add, cell_of_row _ w.heap.size j (rowsV rs).toArray t (0, 0) (heap_alloc_new w _)]
  simp [rowsV, hj, h1]

set_option maxRecDepth 100000 in
theorem six_calls (w : World) : Calls Tryd.prog 66 #[] w fun e w' => ∃ A, e = .returned (.slice A 6 6) ∧ RII w' .i64 A sixL ∧ Below w.heap.size w w' := by
  go_enter Tryd.func66, Tryd.ntmps66
  go_wp2_with fail
  go_ret
  refine ⟨_, rfl, ?_, ?_⟩
  · obtain ⟨w1, e1⟩ : ∃ w1, w1 = w.alloc (.cells #[.int .i64 1] 3) := ⟨_, rfl⟩
    rw [← e1]
    obtain ⟨w2, e2⟩ : ∃ w2, w2 = w1.alloc (.cells #[.int .i64 2] 3) := ⟨_, rfl⟩
    rw [← e2]
    obtain ⟨w3, e3⟩ : ∃ w3, w3 = w2.alloc (.cells #[.int .i64 1, .int .i64 3] 3) := ⟨_, rfl⟩
    rw [← e3]
    obtain ⟨w4, e4⟩ : ∃ w4, w4 = w3.alloc (.cells #[.int .i64 4] 3) := ⟨_, rfl⟩
    rw [← e4]
    obtain ⟨w5, e5⟩ : ∃ w5, w5 = w4.alloc (.cells #[.int .i64 4] 3) := ⟨_, rfl⟩
    rw [← e5]
    obtain ⟨w6, e6⟩ : ∃ w6, w6 = w5.alloc (.cells #[.int .i64 0] 3) := ⟨_, rfl⟩
    rw [← e6]
    have s1 : w1.heap.size = w.heap.size + 1 := by rw [e1]; simp
    have s2 : w2.heap.size = w.heap.size + 1 + 1 := by rw [e2]; simp [s1]
    have s3 : w3.heap.size = w.heap.size + 1 + 1 + 1 := by rw [e3]; simp [s2]
    have s4 : w4.heap.size = w.heap.size + 1 + 1 + 1 + 1 := by rw [e4]; simp [s3]
    have s5 : w5.heap.size = w.heap.size + 1 + 1 + 1 + 1 + 1 := by rw [e5]; simp [s4]
    have s6 : w6.heap.size = w.heap.size + 1 + 1 + 1 + 1 + 1 + 1 := by rw [e6]; simp [s5]
    have r1 : RI w1 .i64 (some ⟨w.heap.size, 0, none⟩) [1] := by rw [e1]; exact RI.lit w [1] (by decide)
    have r2 : RI w2 .i64 (some ⟨w.heap.size + 1, 0, none⟩) [2] := by rw [e2, ← s1]; exact RI.lit w1 [2] (by decide)
    have r3 : RI w3 .i64 (some ⟨w.heap.size + 1 + 1, 0, none⟩) [1, 3] := by rw [e3, ← s2]; exact RI.lit w2 [1, 3] (by decide)
    have r4 : RI w4 .i64 (some ⟨w.heap.size + 1 + 1 + 1, 0, none⟩) [4] := by rw [e4, ← s3]; exact RI.lit w3 [4] (by decide)
    have r5 : RI w5 .i64 (some ⟨w.heap.size + 1 + 1 + 1 + 1, 0, none⟩) [4] := by rw [e5, ← s4]; exact RI.lit w4 [4] (by decide)
    have r6 : RI w6 .i64 (some ⟨w.heap.size + 1 + 1 + 1 + 1 + 1, 0, none⟩) [0] := by rw [e6, ← s5]; exact RI.lit w5 [0] (by decide)
    have b6 : Below w5.heap.size w5 w6 := by rw [e6]; exact below_new _ _
    have b5 : Below w4.heap.size w4 w6 := by have h : Below w4.heap.size w4 w5 := by { rw [e5]; exact below_new _ _ }; exact below_then h b6 h.size
    have b4 : Below w3.heap.size w3 w6 := by have h : Below w3.heap.size w3 w4 := by { rw [e4]; exact below_new _ _ }; exact below_then h b5 h.size
    have b3 : Below w2.heap.size w2 w6 := by have h : Below w2.heap.size w2 w3 := by { rw [e3]; exact below_new _ _ }; exact below_then h b4 h.size
    have b2 : Below w1.heap.size w1 w6 := by have h : Below w1.heap.size w1 w2 := by { rw [e2]; exact below_new _ _ }; exact below_then h b3 h.size
    have hh := RII.lit (w := w6) (gs := sixL) [(w.heap.size, 1), (w.heap.size + 1, 1), (w.heap.size + 1 + 1, 2), (w.heap.size + 1 + 1 + 1, 1), (w.heap.size + 1 + 1 + 1 + 1, 1), (w.heap.size + 1 + 1 + 1 + 1 + 1, 1)] 22 (by decide) rfl (fun j r xs hr hx => by
      rcases j with _ | _ | _ | _ | _ | _ | j
      · obtain rfl := Option.some.inj hr
        obtain rfl := Option.some.inj hx
        exact ⟨rfl, r1.below b2 (Nat.le_refl _)⟩
      · obtain rfl := Option.some.inj hr
        obtain rfl := Option.some.inj hx
        exact ⟨rfl, r2.below b3 (Nat.le_refl _)⟩
      · obtain rfl := Option.some.inj hr
        obtain rfl := Option.some.inj hx
        exact ⟨rfl, r3.below b4 (Nat.le_refl _)⟩
      · obtain rfl := Option.some.inj hr
        obtain rfl := Option.some.inj hx
        exact ⟨rfl, r4.below b5 (Nat.le_refl _)⟩
      · obtain rfl := Option.some.inj hr
        obtain rfl := Option.some.inj hx
        exact ⟨rfl, r5.below b6 (Nat.le_refl _)⟩
      · obtain rfl := Option.some.inj hr
        obtain rfl := Option.some.inj hx
        exact ⟨rfl, r6⟩
      · cases hx)
    rw [s6] at hh
    exact hh
  · exact below_alloc (below_alloc (below_alloc (below_alloc (below_alloc (below_alloc (below_new w _) (by simp) _) (by simp; omega) _) (by simp; omega) _) (by simp; omega) _) (by simp; omega) _) (by simp; omega) _

theorem six_long : ∀ xs ∈ sixL, xs.length ≤ 17592186043904 := by decide

set_option maxRecDepth 100000 in
set_option maxHeartbeats 1600000 in
theorem awake12_calls (B : Nat) (S : Nat → Addr) (w : World) (hE : Env B S w) :
    Calls Tryd.prog 26 #[] w fun e w' => e = .returned (.bool true) ∧ Below w.heap.size w w' := by
  have HE := hid hE
  clear hE
  go_enter Tryd.func26, Tryd.ntmps26
  go_wp2_with fail
  refine (six_calls w).mono ?_
  rintro e w1 ⟨A1, rfl, hr1, hb1⟩
  have HR1 := hid hr1
  have HB1 := hid hb1
  have HE1 := hid (HE.out.below' hb1)
  clear hr1 hb1
  go_wp2_with fail
  refine (gParts_ok B S w1 HE1.out A1 6 6 sixL HR1.out rfl six_ok six_long).mono ?_
  rintro e w2 ⟨gx, xs, rfl, hrx, hip, hb2⟩
  rw [six_eq] at hip
  obtain rfl := hip.uniq six_parts
  have HP := hid (ri_of_row hrx rfl (by decide))
  have HB2 := hid (below_then HB1.out hb2 HB1.out.size)
  clear hrx hip hb2 HR1
  go_wp2_with fail
  refine (six_calls w2).mono ?_
  rintro e w3 ⟨A3, rfl, hr3, hb3⟩
  have HR3 := hid hr3
  have HB3 := hid (below_then HB2.out hb3 HB2.out.size)
  have HP3 := hid (HP.out.below hb3 (Nat.le_refl _))
  have HE3 := hid (HE.out.below' HB3.out)
  clear hr3 hb3 HP
  go_wp2_with fail
  refine (gLive_ok B S w3 HE3.out A3 6 6 sixL HR3.out rfl six_ok six_long).mono ?_
  rintro e w4 ⟨v4, rfl, ho4, hb4⟩
  rw [six_eq, six_live] at ho4
  obtain ⟨A4, c4, hv4, hc4, _, hr4⟩ := own_ri (k := .i64) (xs := [1, 2, 3, 4]) ho4
  subst hv4
  have HL4 := hid hr4
  have HB4 := hid (below_then HB3.out hb4 HB3.out.size)
  have HP4 := hid (HP3.out.below hb4 (Nat.le_refl _))
  clear ho4 hr4 hb4 HP3 HR3
  go_wp2_with fail
  refine (six_calls w4).mono ?_
  rintro e w5 ⟨A5, rfl, hr5, hb5⟩
  have HR5 := hid hr5
  have HB5 := hid (below_then HB4.out hb5 HB4.out.size)
  have HP5 := hid (HP4.out.below hb5 (Nat.le_refl _))
  have HL5 := hid (HL4.out.below hb5 (Nat.le_refl _))
  have HE5 := hid (HE.out.below' HB5.out)
  clear hr5 hb5 HP4 HL4
  go_wp2_with fail
  refine (gPath_ok B S w5 HE5.out A5 6 6 sixL HR5.out rfl six_ok six_long 0 4 (by decide) (by decide)).mono ?_
  rintro e w6 ⟨v6, rfl, hb6, hv6⟩
  rw [six_eq] at hv6
  rcases hv6 with ⟨hno, _⟩ | ⟨l, hl, _, ho6⟩
  · exact absurd six_reach hno
  obtain rfl := hl.uniq six_lex
  obtain ⟨A6, c6, hv6, hc6, _, hr6⟩ := own_ri (k := .i64) (xs := [0, 1, 2, 3, 4]) ho6
  subst hv6
  have HW6 := hid hr6
  have HB6 := hid (below_then HB5.out hb6 HB5.out.size)
  have HP6 := hid (HP5.out.below hb6 (Nat.le_refl _))
  have HL6 := hid (HL5.out.below hb6 (Nat.le_refl _))
  clear ho6 hr6 hb6 HP5 HL5 HR5 hl
  go_wp2_with fail
  have bA := below_new w6 (.cells #[.int .i64 0, .int .i64 1, .int .i64 1, .int .i64 2, .int .i64 3, .int .i64 4] 3)
  refine (rawInts_calls _ (some ⟨gx, 0, none⟩) (some ⟨w6.heap.size, 0, none⟩) 6 6 [0, 1, 1, 2, 3, 4] [0, 1, 1, 2, 3, 4] (HP6.out.below bA (Nat.le_refl _)) (RI.lit w6 [0, 1, 1, 2, 3, 4] (by decide))).mono ?_
  rintro e w7 ⟨rfl, n7, hw7⟩
  have hb7 : Below w6.heap.size w6 w7 := by rw [hw7]; exact below_drawn bA n7
  have HB7 := hid (below_then HB6.out hb7 HB6.out.size)
  have HL7 := hid (HL6.out.below hb7 (Nat.le_refl _))
  have HW7 := hid (HW6.out.below hb7 (Nat.le_refl _))
  rw [show decide (([0, 1, 1, 2, 3, 4] : List Int) = [0, 1, 1, 2, 3, 4]) = true from rfl]
  clear hw7 hb7 bA HP6 HL6 HW6
  go_wp2_with fail
  have bB := below_new w7 (.cells #[.int .i64 1, .int .i64 2, .int .i64 3, .int .i64 4] 3)
  refine (rawInts_calls _ A4 (some ⟨w7.heap.size, 0, none⟩) c4 4 [1, 2, 3, 4] [1, 2, 3, 4] (HL7.out.below bB (Nat.le_refl _)) (RI.lit w7 [1, 2, 3, 4] (by decide))).mono ?_
  rintro e w8 ⟨rfl, n8, hw8⟩
  have hb8 : Below w7.heap.size w7 w8 := by rw [hw8]; exact below_drawn bB n8
  have HB8 := hid (below_then HB7.out hb8 HB7.out.size)
  have HW8 := hid (HW7.out.below hb8 (Nat.le_refl _))
  rw [show decide (([1, 2, 3, 4] : List Int) = [1, 2, 3, 4]) = true from rfl]
  clear hw8 hb8 bB HL7 HW7
  go_wp2_with fail
  have bC := below_new w8 (.cells #[.int .i64 0, .int .i64 1, .int .i64 2, .int .i64 3, .int .i64 4] 3)
  refine (rawInts_calls _ A6 (some ⟨w8.heap.size, 0, none⟩) c6 5 [0, 1, 2, 3, 4] [0, 1, 2, 3, 4] (HW8.out.below bC (Nat.le_refl _)) (RI.lit w8 [0, 1, 2, 3, 4] (by decide))).mono ?_
  rintro e w9 ⟨rfl, n9, hw9⟩
  have hb9 : Below w8.heap.size w8 w9 := by rw [hw9]; exact below_drawn bC n9
  have HB9 := hid (below_then HB8.out hb9 HB8.out.size)
  rw [show decide (([0, 1, 2, 3, 4] : List Int) = [0, 1, 2, 3, 4]) = true from rfl]
  clear hw9 hb9 bC HW8
  go_wp2_with fail
  go_ret
  exact ⟨rfl, HB9.out⟩
end Go.Proofs.YtapebbejdgeijaaDoor
