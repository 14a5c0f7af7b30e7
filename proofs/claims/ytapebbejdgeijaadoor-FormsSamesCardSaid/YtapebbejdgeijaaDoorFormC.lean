/- package forms: widened. -/
import Derived.Test.YtapebbejdgeijaaDoorFormB
namespace Go.Proofs.YtapebbejdgeijaaDoor
open Go.RowKit Go.Extern.Stop Go.Stop Go.Extern Go.Deep

theorem Tryd.entersWidenedC : Enters Tryd.prog 105 := enters_of Tryd.func105 (by kernel_rfl) rfl
theorem getD_some {T : List Int} {v : Nat} (h : v < T.length) : T[v]? = some (T.getD v 0) := by
  rw [List.getD_eq_getElem?_getD, List.getElem?_eq_getElem h]; rfl
theorem RI.part {w : World} {g d n : Nat} {ds : List Nat} (h : RI w .i64 (some ⟨g, 0, none⟩) (ints ds)) : RI w .i64 (some ⟨g, d, none⟩) (ints ((ds.drop d).take n)) := by
  have h1 := (h.drop d).take n
  rw [Nat.zero_add] at h1
  rw [show ints ((ds.drop d).take n) = ((ints ds).drop d).take n by simp [ints, List.map_take, List.map_drop]]
  exact h1

set_option maxRecDepth 100000 in
theorem widenedC_calls (w : World) (k R R' : Nat) (hk1 : 1 ≤ k) (hk4 : k ≤ 4) (hRR : R ≤ R') (hR : R' ≤ 3) (A : Option Addr) (m c : Nat) (T : List Int) (hm : m = T.length) (hT : T.length = sz k R) (hr : RI w .i64 A T)
    (b bd : Nat) (hb : Cell3 w b 57 (.int .i64 k) (.int .i64 R) (.slice A m c)) (d : Nat) (hd : R' = R + d) (hbd : w.cell? ⟨bd, 0, none⟩ = some (.int .i64 d))
    (g i : Nat) (hg : RI w .i64 (some ⟨g, 0, none⟩) (ints (digs k (2 * R' + 1) i))) :
    Calls Tryd.prog 105 #[.slice (some ⟨g, 0, none⟩) (2 * R' + 1) (2 * R' + 1), .pointer (some ⟨b, 0, none⟩), .pointer (some ⟨bd, 0, none⟩)] w fun e w' => e = .returned (.int .i64 (T.getD ((i / k ^ (R' - R)) % sz k R) 0)) ∧ Below w.heap.size w w' := by
  subst hd
  rw [show R + d - R = d by omega]
  obtain ⟨n, hn⟩ : ∃ n, n = 2 * (R + d) + 1 := ⟨_, rfl⟩
  rw [← hn] at hg ⊢
  obtain ⟨q, hq⟩ : ∃ q, q = n - d := ⟨_, rfl⟩
  have eq1 : (n : Int) - (d : Int) = (q : Int) := by omega
  have hqn : q ≤ n := by omega
  have ew : IntKind.i64.wrap ((n : Int) - (d : Int)) = (q : Int) := by rw [IntWalk.i64_left, IntWalk.wrap64_in _ (by omega)]; exact eq1
  have i1 : (0 : Int) ≤ (d : Int) := by omega
  have i2 : (d : Int) ≤ (q : Int) := by omega
  have i3 : (q : Int) ≤ (n : Int) := by omega
  have i4 : (0 : Int) ≤ (q : Int) := by omega
  have hdq : d ≤ q := by omega
  have hql : q - d = 2 * R + 1 := by omega
  have hn7 : n ≤ 7 := by omega
  have HG : Hid (RI w .i64 (some ⟨g, d, none⟩) (ints (digs k (2 * R + 1) (i / k ^ d)))) := by
    have h1 := hg.part (d := d) (n := 2 * R + 1)
    rw [show n = (2 * R + 1) + 2 * d by omega, digs_mid] at h1
    exact h1
  have hlt : (i / k ^ d) % sz k R < T.length := by rw [hT]; exact Nat.mod_lt _ (sz_pos hk1 R)
  have HX : Hid (T[num k (digs k (2 * R + 1) (i / k ^ d))]? = some (T.getD ((i / k ^ d) % sz k R) 0)) := by
    show _ = _
    rw [num_digs]
    exact getD_some hlt
  have HD : Hid (∀ x ∈ digs k (2 * R + 1) (i / k ^ d), x < k) := digs_lt hk1 _ _
  have HL : Hid (2 * R + 1 = (digs k (2 * R + 1) (i / k ^ d)).length) := (digs_length _ _ _).symm
  have hql7 : 2 * R + 1 ≤ 7 := by omega
  have hnd : ¬ n = d := by omega
  have HR := hid hr
  have HM := hid hm
  obtain ⟨c0, c1, c2⟩ := cells3 hb
  generalize T.getD ((i / k ^ d) % sz k R) 0 = x at *
  generalize digs k (2 * R + 1) (i / k ^ d) = ds at *
  clear hg hr hm hT hb hlt hn hq hR hRR eq1
  go_enter Tryd.func105, Tryd.ntmps105
  go_wp2_with fail
  go_region_held3 (fun w' => w'.cell? ⟨bd, 0, none⟩ = some (.int .i64 d) ∧ w'.cell? ⟨b, 0, none⟩ = some (.int .i64 k) ∧ w'.cell? ⟨b, 1, none⟩ = some (.int .i64 R) ∧ w'.cell? ⟨b, 2, none⟩ = some (.slice A m c)) (first | go_keep | (refine ⟨?_, ?_, ?_, ?_⟩ <;> assumption))
    (first | (go_at_call 100; refine (symbol_calls _ k hk1 hk4 R A m c T HM.out (HR.out.below (below_drawn (Below.refl _ _) 1) (Nat.le_refl _)) (some ⟨g, d, none⟩) _ _ ds HL.out (HG.out.below (below_drawn (Below.refl _ _) 1) (Nat.le_refl _)) HD.out (by rw [← HL.out]; exact hql7) x HX.out).mono ?_; rintro e w2 ⟨rfl, hb2⟩; have HB2 := hid hb2; have d0 := (hb2.cell (show bd < _ from World.block_lt_of_cell? _ _ hbd)).trans hbd; have d1 := (hb2.cell (show b < _ from World.block_lt_of_cell? _ _ c0)).trans c0; have d2 := (hb2.cell (show b < _ from World.block_lt_of_cell? _ _ c1)).trans c1; have d3 := (hb2.cell (show b < _ from World.block_lt_of_cell? _ _ c2)).trans c2; clear hb2))
  go_wp2
  go_ret
  exact ⟨rfl, HB2.out.os, HB2.out.tape, HB2.out.output, HB2.out.size, HB2.out.block⟩

theorem rule_fin {w w4 : World} {base g : Nat} {A : Option Addr} {c : Nat} {T : List Int} {x y z x' y' z' : Value} (ho : w4.ownsRow base 3 1 (.slice A T.length c) T.length (T.map (Value.int .i64))) (hc : Cell3 w4 g 57 x y z) (hb : Below w.heap.size w w4) (hg : w.heap.size ≤ g) (hbase : w.heap.size ≤ base) :
    (set3 w4 g x' y' z').ownsRow w.heap.size 3 1 (.slice A T.length c) T.length (T.map (Value.int .i64)) ∧ Below w.heap.size w (set3 w4 g x' y' z') :=
  ⟨own_keep (own_base ho hbase) g (own_not_block ho hc (by decide)) set3_same, set3_below hb hg⟩
theorem cell_at {w : World} {g : Nat} {v : Value} {t : TypeId} {f : Nat × Nat} (h : w.heap[g]? = some (.cells #[v] t f)) : w.cell? ⟨g, 0, none⟩ = some v := by simp [World.cell?, h]
def zeroRule : Value := .agg #[.int .i64 0, .int .i64 0, .slice none 0 0]

set_option maxRecDepth 100000 in
theorem widened_calls (w : World) (k R R' : Nat) (hk1 : 1 ≤ k) (hk4 : k ≤ 4) (hRR : R ≤ R') (hR : R' ≤ 3) (A : Option Addr) (m c : Nat) (T : List Int) (hm : m = T.length) (hT : T.length = sz k R) (hr : RI w .i64 A T) :
    Calls Tryd.prog 62 #[.agg #[.int .i64 k, .int .i64 R, .slice A m c], .int .i64 R'] w (RuleNew w k R' (widenT k R R' T)) := by
  obtain ⟨d, hd⟩ : ∃ d, R' = R + d := ⟨R' - R, by omega⟩
  have ed : (R' : Int) - (R : Int) = (d : Int) := by omega
  obtain ⟨w1, hw1⟩ : ∃ w1, w1 = w.alloc (.cells #[.int .i64 k, .int .i64 R, .slice A m c] 57) := ⟨_, rfl⟩
  obtain ⟨w2, hw2⟩ : ∃ w2, w2 = w1.alloc (.cells #[.int .i64 0, .int .i64 0, .slice none 0 0] 57) := ⟨_, rfl⟩
  obtain ⟨w3, hw3⟩ : ∃ w3, w3 = w2.alloc (.cells #[.int .i64 d] 3) := ⟨_, rfl⟩
  have s1 : w1.heap.size = w.heap.size + 1 := by rw [hw1, World.size_alloc]
  have s2 : w2.heap.size = w.heap.size + 1 + 1 := by rw [hw2, World.size_alloc, s1]
  have b1 : Below w.heap.size w w1 := by rw [hw1]; exact below_new w _
  have b2 : Below w1.heap.size w1 w2 := by rw [hw2]; exact below_new w1 _
  have b3 : Below w2.heap.size w2 w3 := by rw [hw3]; exact below_new w2 _
  have b12 := below_then b1 b2 b1.size
  have b13 := below_then b12 b3 b12.size
  have c1 : Cell3 w1 w.heap.size 57 (.int .i64 k) (.int .i64 R) (.slice A m c) := by rw [hw1]; exact heap_alloc_new w _
  have c2 : Cell3 w2 (w.heap.size + 1) 57 (.int .i64 0) (.int .i64 0) (.slice none 0 0) := by rw [hw2, ← s1]; exact heap_alloc_new w1 _
  have c3 : w3.heap[w.heap.size + 1 + 1]? = some (.cells #[.int .i64 d] 3 (0, 0)) := by rw [hw3, ← s2]; exact heap_alloc_new w2 _
  have c13 : Cell3 w3 w.heap.size 57 (.int .i64 k) (.int .i64 R) (.slice A m c) := (c1.below b2).below b3
  have c23 := c2.below b3
  have r3 : RI w3 .i64 A T := hr.below b13 (Nat.le_refl _)
  have HF : Hid (∀ (W : World) (g i : Nat), Below w3.heap.size w3 W → i < sz k R' → RI W .i64 (some ⟨g, 0, none⟩) (ints (digs k (2 * R' + 1) i)) → Calls Tryd.prog 105 (#[.slice (some ⟨g, 0, none⟩) (2 * R' + 1) (2 * R' + 1)] ++ #[.pointer (some ⟨w.heap.size, 0, none⟩), .pointer (some ⟨w.heap.size + 1 + 1, 0, none⟩)]) W fun e W' => e = .returned (.int .i64 (T.getD ((i / k ^ (R' - R)) % sz k R) 0)) ∧ Below W.heap.size W W') := fun W g i hB _ hg =>
    widenedC_calls W k R R' hk1 hk4 hRR hR A m c T hm hT (r3.below hB (Nat.le_refl _)) w.heap.size (w.heap.size + 1 + 1) (c13.below hB) d hd (cell_at ((hB.block _ (Array.getElem?_eq_some_iff.1 c3).1).trans c3)) g i hg
  obtain ⟨k0, k1, k2⟩ := cells3 c1
  obtain ⟨k0', k1', k2'⟩ := cells3 (c1.below b2)
  obtain ⟨k0'', k1'', k2''⟩ := cells3 c13
  have C23 := hid c23
  have B13 := hid b13
  have S3 : Hid (w.heap.size + 1 < w3.heap.size) := c23.lt
  rw [hw1] at k0 k1 k2
  rw [hw2, hw1] at k0' k1' k2'
  rw [hw3, hw2, hw1] at k0'' k1'' k2''
  have HW : Hid (w3 = ((w.alloc (.cells #[.int .i64 k, .int .i64 R, .slice A m c] 57)).alloc (.cells #[.int .i64 0, .int .i64 0, .slice none 0 0] 57)).alloc (.cells #[.int .i64 d] 3)) := by
    show _ = _
    rw [hw3, hw2, hw1]
  clear hw1 hw2 hw3 b1 b2 b3 b12 b13 c1 c2 c3 c13 c23 r3 hr hm hT hd s1 s2
  go_enter Tryd.func62, Tryd.ntmps62
  go_wp2_with fail
  rw [← show w3 = _ from HW.out]
  refine (made_calls w3 k R' hk1 hk4 hR 105 #[.pointer (some ⟨w.heap.size, 0, none⟩), .pointer (some ⟨w.heap.size + 1 + 1, 0, none⟩)] _ Tryd.entersWidenedC HF.out).mono ?_
  rintro e w4 ⟨A4, c4, rfl, ho, hb⟩
  have HO := hid ho
  have HB4 := hid (below_then B13.out hb B13.out.size)
  have H4 := hid (C23.out.below hb)
  rw [show ((List.range (sz k R')).map fun i => T.getD ((i / k ^ (R' - R)) % sz k R) 0) = widenT k R R' T from rfl] at HO ⊢
  clear ho hb
  obtain ⟨c0, f0, c1, f1, c2, f2, r0, r1, r2⟩ := H4.out.facts (.int .i64 k) (.int .i64 R') (.slice A4 (widenT k R R' T).length c4)
  go_wp2_with fail
  refine bodyPost_ret (v := .agg #[.int .i64 k, .int .i64 R', .slice A4 (widenT k R R' T).length c4]) (by simp [results, Tryd.results62, go_sem, r0, r1, r2]) rfl ?_
  have hbs : w.heap.size ≤ w3.heap.size := by have := S3.out; omega
  obtain ⟨h1, h2⟩ := rule_fin (x' := .int .i64 k) (y' := .int .i64 R') (z' := .slice A4 (widenT k R R' T).length c4) HO.out H4.out HB4.out (Nat.le_succ _) hbs
  exact ⟨A4, c4, rfl, h1, h2⟩
end Go.Proofs.YtapebbejdgeijaaDoor
