/- edenraw.Lent, edenraw.Kept. -/
import Derived.Test.YtapebbejdgeijaaDoorRaw
import Derived.Laws.CopyOwn
namespace Go.Proofs.YtapebbejdgeijaaDoor
open Go.RowKit Go.Extern.Stop Go.Stop Go.Extern Go.Deep

theorem addr_add (b o j : Nat) : (⟨b, o, none⟩ : Addr).add j = ⟨b, o + j, none⟩ := by
  by_cases h0 : j = 0
  · subst h0; simp [Addr.add]
  · simp [Addr.add, h0]
theorem intSize : (Tryd.prog.info? 3).map (·.size) = some 1 := by kernel_rfl
theorem RI.copy {w : World} {k : IntKind} {A : Option Addr} {xs : List Int} (h : RI w k A xs) {dp : Addr} : 0 < (xs.map (Value.int k)).length → some dp = some dp ∧ ∃ ad, A = some ad ∧ ∀ j v, (xs.map (Value.int k))[j]? = some v → w.cell? (ad.add j) = some v := fun hp => by
  obtain ⟨b, o, hA, hc⟩ := h.cells hp
  exact ⟨rfl, _, hA, fun j v hj => by rw [addr_add]; exact hc j v hj⟩

def lentCells (xs : List Int) : List Value := xs.map (Value.int .i64) ++ [.int .i64 7001, .int .i64 7002]
theorem lent_row (xs : List Int) (q : Nat) (hq : q = xs.length + 2) : (((splice (List.replicate q (Value.int .i64 0)) 0 (xs.map (Value.int .i64))).toArray.setIfInBounds xs.length (.int .i64 7001)).setIfInBounds (xs.length + 1) (.int .i64 7002)) = (lentCells xs).toArray := by
  subst hq
  apply Array.ext'
  simp [splice, lentCells]

theorem lent_facts {w4 : World} {k m q : Nat} {xs : List Int} (hm : m = xs.length) (hq : q = m + 2) (hg : w4.heap[k]? = some (.cells (splice (List.replicate q (Value.int .i64 0)) 0 (xs.map (Value.int .i64))).toArray 3 (0, 0))) :
    w4.cell? ⟨k, m, none⟩ = some (.int .i64 0) ∧ w4.frozen? ⟨k, m, none⟩ = false ∧ (w4.setCell ⟨k, m, none⟩ (.int .i64 7001)).cell? ⟨k, m + 1, none⟩ = some (.int .i64 0) ∧ (w4.setCell ⟨k, m, none⟩ (.int .i64 7001)).frozen? ⟨k, m + 1, none⟩ = false ∧
    ((w4.setCell ⟨k, m, none⟩ (.int .i64 7001)).setCell ⟨k, m + 1, none⟩ (.int .i64 7002)).heap[k]? = some (.cells (lentCells xs).toArray 3 (0, 0)) := by
  subst hm
  have h1 := heap_setCell_same w4 k xs.length _ _ (.int .i64 7001) hg
  have h2 := heap_setCell_same _ k (xs.length + 1) _ _ (.int .i64 7002) h1
  refine ⟨?_, by simp [World.frozen?, hg], ?_, by simp [World.frozen?, h1], ?_⟩
  · subst hq
    simp [World.cell?, hg, splice]
  · subst hq
    simp [World.cell?, h1, splice]
  · rw [h2, lent_row xs q hq]

set_option maxRecDepth 100000 in
theorem lent_calls (w : World) (A : Option Addr) (m c : Nat) (xs : List Int) (hm : m = xs.length) (hr : RI w .i64 A xs) (hl : xs.length ≤ 4096) :
    Calls Tryd.prog 48 #[.slice A m c] w fun e w' => e = .returned (.slice (some ⟨w.heap.size, 0, none⟩) m (m + 2)) ∧ w'.heap[w.heap.size]? = some (.cells (lentCells xs).toArray 3 (0, 0)) ∧ Below w.heap.size w w' := by
  have HR := hid hr
  have HM := hid hm
  have hml : m ≤ 4096 := by omega
  clear hr hm hl
  obtain ⟨q, hq⟩ : ∃ q, q = m + 2 := ⟨_, rfl⟩
  have em : (m : Int) + 2 = (q : Int) := by omega
  have hmk := run_make_row' (P := Tryd.prog) 22 3 (.int .i64 0) 8 Tryd.underlying22 Tryd.infoInt rfl .i64 .i64 q (by omega) (by omega)
  have HQ := hid hq
  have hqm : m < q := by omega
  have hqm1 : m + 1 < q := by omega
  have HG : Hid ((w.alloc (.cells (madeCells #[.int .i64 0] q) 3)).heap[w.heap.size]? = some (.cells (List.replicate q (Value.int .i64 0)).toArray 3 (0, 0))) := by
    have h := heap_alloc_new w (.cells (madeCells #[.int .i64 0] q) 3)
    have e : madeCells #[Value.int .i64 0] q = (List.replicate q (Value.int .i64 0)).toArray := Array.ext' (by rw [toList_madeCells_one])
    show _ = _
    rw [h, e]
  have HB : Hid (Below w.heap.size w (w.alloc (.cells (madeCells #[.int .i64 0] q) 3))) := below_new _ _
  have HN : Hid ((xs.map (Value.int .i64)).length = Nat.min m q) := by
    show _ = _
    rw [List.length_map, ← HM.out]
    exact (Nat.min_eq_left (by omega)).symm
  have HF : Hid (0 + (xs.map (Value.int .i64)).length ≤ (List.replicate q (Value.int .i64 0)).length) := by
    show _ ≤ _
    rw [List.length_map, List.length_replicate, ← HM.out]; omega
  clear hq
  go_enter Tryd.func48, Tryd.ntmps48
  go_wp2_with (refine wpList_copy_splice (by rfl) (.tmp 8) (.tmp 9) 22 22 (by rfl) 3 Tryd.underlying22 intSize _ _ _ _ _ _ (by rfl) (by rfl) w.heap.size 0 _ 3 HG.out (xs.map (Value.int .i64)) HN.out (HR.out.below HB.out (Nat.le_refl _)).copy HF.out (int_oneCell _ _) w.heap.size w HB.out (Nat.le_refl _) ?_; intro w4 hg4 hb4; obtain ⟨p0, p1, p2, p3, p4⟩ := lent_facts HM.out HQ.out hg4.out; have HP4 := hid p4; have HB4 := hid hb4; clear hg4 hb4 p4)
  go_ret
  have e : q = m + 2 := HQ.out
  exact ⟨by rw [e]; rfl, HP4.out, Below.setCell (Below.setCell HB4.out (Nat.le_refl _) _) (Nat.le_refl _) _⟩

theorem lent_ri {w : World} {g : Nat} {xs : List Int} (h : w.heap[g]? = some (.cells (lentCells xs).toArray 3 (0, 0))) (hl : xs.length ≤ 4096) : RI w .i64 (some ⟨g, 0, none⟩) xs :=
  ⟨by omega, fun _ => ⟨g, 0, rfl, (Array.getElem?_eq_some_iff.1 h).1, fun j x hx => by
    have hj := (List.getElem?_eq_some_iff.1 hx).1
    have hx' := (List.getElem?_eq_some_iff.1 hx).2
    simp [World.cell?, h, lentCells, List.getElem?_append_left, hj, hx']⟩⟩

set_option maxRecDepth 100000 in
theorem kept_calls (w : World) (g : Nat) (A : Option Addr) (m c : Nat) (xs : List Int) (hm : m = xs.length) (hl : xs.length ≤ 4096) (hg : w.heap[g]? = some (.cells (lentCells xs).toArray 3 (0, 0))) (hr : RI w .i64 A xs) :
    Calls Tryd.prog 56 #[.slice (some ⟨g, 0, none⟩) m (m + 2), .slice A m c] w fun e w' => e = .returned (.bool true) ∧ ∃ n, w' = w.drewN n := by
  have HR := hid hr
  have HM := hid hm
  have hml : m ≤ 4096 := by omega
  have HRL := hid (lent_ri hg hl)
  have k0 : w.cell? ⟨g, m, none⟩ = some (.int .i64 7001) := by subst hm; simp [World.cell?, hg, lentCells]
  have k1 : w.cell? ⟨g, m + 1, none⟩ = some (.int .i64 7002) := by subst hm; simp [World.cell?, hg, lentCells]
  clear hr hl hg hm
  obtain ⟨q, hq⟩ : ∃ q, q = m + 2 := ⟨_, rfl⟩
  have em : (m : Int) + 2 = (q : Int) := by omega
  have hqm : m < q := by omega
  have hqm1 : m + 1 < q := by omega
  rw [← hq]
  clear hq
  go_enter Tryd.func56, Tryd.ntmps56
  go_wp2_with fail
  refine (show Calls Tryd.prog 20 #[.slice (some ⟨g, 0, none⟩) m q, .slice A m c] w _ from by rw [HM.out]; exact rawInts_calls w (some ⟨g, 0, none⟩) A q c xs xs HRL.out HR.out).mono ?_
  rintro e w1 ⟨rfl, nd, rfl⟩
  rw [decide_eq_true rfl]
  go_wp2_with fail
  go_ret
  exact ⟨rfl, _, rfl⟩
end Go.Proofs.YtapebbejdgeijaaDoor
