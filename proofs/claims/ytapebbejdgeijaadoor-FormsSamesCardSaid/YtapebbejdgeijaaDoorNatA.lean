/- package nat, at numbers of one limb: From, Add, Mul. -/
import Derived.Test.YtapebbejdgeijaaDoorNat
namespace Go.Proofs.YtapebbejdgeijaaDoor
open Go.RowKit Go.Extern.Stop Go.Stop Go.Extern Go.Deep

theorem Tryd.infoU32 : (Tryd.prog.info? 194).map (fun i => (i.zero, i.size, i.bytes)) = some (some (.int .u32 0), 1, 4) := by kernel_rfl
def NatNew (x : Int) (w : World) (e : Ending) (w' : World) : Prop :=
  ∃ A c, e = .returned (.slice A (natL x).length c) ∧ (natL x).length ≤ c ∧ RI w' .u32 A (natL x) ∧ Below w.heap.size w w'

/-- norm of a block that is the call's own. -/
theorem norm_new (w : World) (A : Option Addr) (m c : Nat) (xs : List Int) (x : Int) (hm : m = xs.length) (hmcap : m ≤ c) (hr : RI w .u32 A xs) (hx : strip xs = natL x) :
    Calls Tryd.prog 126 #[.slice A m c] w fun e w' => ∃ c', e = .returned (.slice A (natL x).length c') ∧ (natL x).length ≤ c' ∧ RI w' .u32 A (natL x) ∧ w' = w := by
  refine (norm_calls w A m c xs hm hmcap hr).mono ?_
  rintro e w' ⟨rfl, h, rfl⟩
  have hl : (strip xs).length ≤ xs.length := by rw [h]; simp; omega
  rw [hx] at h hl ⊢
  exact ⟨c, rfl, by omega, by rw [h]; exact hr.take _, rfl⟩

set_option maxRecDepth 100000 in
theorem natFrom_calls (w : World) (x : Int) (h0 : 0 ≤ x) (h1 : x < 4294967296) : Calls Tryd.prog 125 #[.int .u64 x] w (NatNew x w) := by
  have hz : x / 4294967296 = 0 := by omega
  go_enter Tryd.func125, Tryd.ntmps125
  go_wp2_with fail
  refine (norm_new (w.alloc (.cells #[.int .u32 x, .int .u32 0] 194)) (some ⟨w.heap.size, 0, none⟩) 2 2 [x, 0] x rfl (Nat.le_refl _) (ri_block (heap_alloc_new w _) (by simp)) (strip_two x)).mono ?_
  rintro e w' ⟨c', rfl, hc, hr, rfl⟩
  have HR := hid hr
  have HC := hid hc
  clear hr hc
  go_wp2_with fail
  go_ret
  exact ⟨_, c', rfl, HC.out, HR.out, below_new w _⟩

set_option maxRecDepth 100000 in
theorem add32_calls (w : World) (x y : Int) (hx : 0 ≤ x) (hy : 0 ≤ y) (h : x + y < 4294967296) :
    Calls Tryd.prog 134 #[.int .u32 x, .int .u32 y, .int .u32 0] w fun e w' => e = .returned (.tuple #[.int .u32 (x + y), .int .u32 0]) ∧ w' = w := by
  have hz : (x + y) / 4294967296 = 0 := by omega
  go_enter Tryd.func134, Tryd.ntmps134
  go_wp2_with fail
  go_ret2
  exact ⟨rfl, rfl⟩

theorem or_zero_u64 {x : Int} (hx : 0 ≤ x) (h : x < 4294967296) : bits .or .u64 0 x = x := by
  show IntKind.u64.wrap (((BitVec.ofInt 64 0 ||| BitVec.ofInt 64 x).toNat : Nat) : Int) = x
  have e : BitVec.ofInt 64 0 = 0#64 := rfl
  rw [e, BitVec.zero_or, BitVec.toNat_ofInt]
  have e2 : (2 : Int) ^ IntKind.u64.bits = 18446744073709551616 := rfl
  simp [IntKind.wrap, IntKind.signed, e2]
  omega
set_option maxRecDepth 100000 in
theorem div32_calls (w : World) (x d : Int) (hx : 0 ≤ x) (h : x < 4294967296) (hd : 0 < d) (hd1 : d < 4294967296) :
    Calls Tryd.prog 135 #[.int .u32 0, .int .u32 x, .int .u32 d] w fun e w' => e = .returned (.tuple #[.int .u32 (x / d), .int .u32 (x % d)]) ∧ ∃ n, w' = w.drewN n := by
  have hd0 : (d == 0) = false := by rw [beq_eq_false_iff_ne]; omega
  have hd2 : (d != 0) = true := by simp; omega
  have hdl : decide (d ≤ 0) = false := by simp; omega
  go_enter Tryd.func135, Tryd.ntmps135
  have hor := or_zero_u64 hx h
  go_wp2_with fail
  have q1 : 0 ≤ x / d := Int.ediv_nonneg hx (Int.le_of_lt hd)
  have q2 : x / d ≤ x := Int.ediv_le_self d hx
  have q3 : 0 ≤ x % d := Int.emod_nonneg x (by omega)
  have q4 : x % d < d := Int.emod_lt_of_pos x hd
  have e1 : x / d % 4294967296 = x / d := Int.emod_eq_of_lt q1 (by omega)
  have e2 : x % d % 4294967296 = x % d := Int.emod_eq_of_lt q3 (by omega)
  go_quiet (fail)
  go_wp2
  go_ret2
  exact ⟨rfl, _, rfl⟩

/-- A block of u32s. -/
theorem ri_made (w : World) (n : Nat) (h : n ≤ 9223372036854775807) : RI (w.alloc (.cells (madeCells #[.int .u32 0] n) 194)) .u32 (some ⟨w.heap.size, 0, none⟩) (List.replicate n 0) := by
  refine ri_block (e := 194) (f := (0, 0)) ?_ (by simpa using h)
  rw [heap_alloc_new]
  congr 2
  exact Array.ext' (by rw [toList_madeCells_one]; simp)
theorem Tryd.mk0 (w : World) : (Instr.makeSlice 153 (.int .i64 0) (.int .i64 0)).run Tryd.prog w = .ok (.slice (some ⟨w.heap.size, 0, none⟩) 0 0) (w.alloc (.cells #[] 194)) := by
  have h := run_make_row' (P := Tryd.prog) 153 194 (.int .u32 0) 4 Tryd.underlying153 Tryd.infoU32 rfl .i64 .i64 0 (by omega) (by omega) w
  have e : madeCells #[Value.int .u32 0] 0 = #[] := Array.ext' (by rw [toList_madeCells_one]; rfl)
  rw [e] at h
  exact h
theorem Tryd.mk1 (w : World) : (Instr.makeSlice 153 (.int .i64 1) (.int .i64 1)).run Tryd.prog w = .ok (.slice (some ⟨w.heap.size, 0, none⟩) 1 1) (w.alloc (.cells #[.int .u32 0] 194)) := by
  have h := run_make_row' (P := Tryd.prog) 153 194 (.int .u32 0) 4 Tryd.underlying153 Tryd.infoU32 rfl .i64 .i64 1 (by omega) (by omega) w
  have e : madeCells #[Value.int .u32 0] 1 = #[.int .u32 0] := Array.ext' (by rw [toList_madeCells_one]; rfl)
  rw [e] at h
  exact h
theorem Tryd.mk2 (w : World) : (Instr.makeSlice 153 (.int .i64 2) (.int .i64 2)).run Tryd.prog w = .ok (.slice (some ⟨w.heap.size, 0, none⟩) 2 2) (w.alloc (.cells #[.int .u32 0, .int .u32 0] 194)) := by
  have h := run_make_row' (P := Tryd.prog) 153 194 (.int .u32 0) 4 Tryd.underlying153 Tryd.infoU32 rfl .i64 .i64 2 (by omega) (by omega) w
  have e : madeCells #[Value.int .u32 0] 2 = #[.int .u32 0, .int .u32 0] := Array.ext' (by rw [toList_madeCells_one]; rfl)
  rw [e] at h
  exact h

/-- The end of each: norm of the own block, then the return. -/
theorem nat_blk {w : World} {g : Nat} {xs : List Int} {f : Nat × Nat} (h : w.heap[g]? = some (.cells (xs.map (Value.int .u32)).toArray 194 f)) (hm : xs.length ≤ 9223372036854775807) : RI w .u32 (some ⟨g, 0, none⟩) xs := ri_block h hm

def FinPost (x : Int) (w : World) (e : Ending) (w' : World) : Prop := ∃ c', e = .returned (.slice (some ⟨w.heap.size, 0, none⟩) (natL x).length c') ∧ (natL x).length ≤ c' ∧ RI w' .u32 (some ⟨w.heap.size, 0, none⟩) (natL x) ∧ Below w.heap.size w w'
theorem fin1 (w : World) (x : Int) : Calls Tryd.prog 126 #[.slice (some ⟨w.heap.size, 0, none⟩) 1 1] (w.alloc (.cells #[.int .u32 x] 194)) (FinPost x w) := by
  refine (norm_new (w.alloc (.cells #[.int .u32 x] 194)) (some ⟨w.heap.size, 0, none⟩) 1 1 [x] x rfl (Nat.le_refl _) (ri_block (heap_alloc_new w _) (by simp)) (strip_one x)).mono ?_
  rintro e w' ⟨c', rfl, hc, hr, rfl⟩
  exact ⟨c', rfl, hc, hr, below_new w _⟩
theorem fin2 (w : World) (x : Int) : Calls Tryd.prog 126 #[.slice (some ⟨w.heap.size, 0, none⟩) 2 2] (w.alloc (.cells #[.int .u32 x, .int .u32 0] 194)) (FinPost x w) := by
  refine (norm_new (w.alloc (.cells #[.int .u32 x, .int .u32 0] 194)) (some ⟨w.heap.size, 0, none⟩) 2 2 [x, 0] x rfl (Nat.le_refl _) (ri_block (heap_alloc_new w _) (by simp)) (strip_two x)).mono ?_
  rintro e w' ⟨c', rfl, hc, hr, rfl⟩
  exact ⟨c', rfl, hc, hr, below_new w _⟩

set_option maxRecDepth 100000 in
theorem add_nil_nil (w : World) (A A' : Option Addr) (c c' : Nat) : Calls Tryd.prog 119 #[.slice A 0 c, .slice A' 0 c'] w (NatNew 0 w) := by
  have hmk := Tryd.mk1
  go_enter Tryd.func119, Tryd.ntmps119
  go_wp2_with fail
  refine wp_loop_rounds 1 ?_
  rw [rounds_succ]
  go_wp2_with fail
  refine (fin1 w 0).mono ?_
  rintro e w1 ⟨c1, rfl, hc1, hr1, hb1⟩
  have HC := hid hc1
  have HR := hid hr1
  have HB := hid hb1
  clear hc1 hr1 hb1
  go_wp2_with fail
  go_ret
  exact ⟨_, c1, rfl, HC.out, HR.out, HB.out⟩

set_option maxRecDepth 100000 in
theorem add_one_nil (w : World) (b o : Nat) (A' : Option Addr) (c c' : Nat) (x : Int) (h0 : 0 ≤ x) (h1 : x < 4294967296) (hx : w.cell? ⟨b, o, none⟩ = some (.int .u32 x)) : Calls Tryd.prog 119 #[.slice (some ⟨b, o, none⟩) 1 c, .slice A' 0 c'] w (NatNew x w) := by
  have hmk := Tryd.mk2
  have hxl := World.block_lt_of_cell? w _ hx
  have hx2 := ((below_new w (.cells #[.int .u32 0, .int .u32 0] 194)).cell (show b < w.heap.size from hxl)).trans hx
  go_enter Tryd.func119, Tryd.ntmps119
  go_wp2_with fail
  refine wp_loop_rounds 2 ?_
  rw [rounds_succ]
  go_wp2_with fail
  refine (add32_calls _ x 0 h0 (by decide) (by omega)).mono ?_
  rintro e w2 ⟨rfl, rfl⟩
  rw [Int.add_zero]
  go_wp2_with fail
  rw [rounds_succ]
  go_wp2_with fail
  refine (fin2 w x).mono ?_
  rintro e w1 ⟨c1, rfl, hc1, hr1, hb1⟩
  have HC := hid hc1
  have HR := hid hr1
  have HB := hid hb1
  clear hc1 hr1 hb1
  go_wp2_with fail
  go_ret
  exact ⟨_, c1, rfl, HC.out, HR.out, HB.out⟩

set_option maxRecDepth 100000 in
theorem add_nil_one (w : World) (b o : Nat) (A' : Option Addr) (c c' : Nat) (x : Int) (h0 : 0 ≤ x) (h1 : x < 4294967296) (hx : w.cell? ⟨b, o, none⟩ = some (.int .u32 x)) : Calls Tryd.prog 119 #[.slice A' 0 c', .slice (some ⟨b, o, none⟩) 1 c] w (NatNew x w) := by
  have hmk := Tryd.mk2
  have hxl := World.block_lt_of_cell? w _ hx
  have hx2 := ((below_new w (.cells #[.int .u32 0, .int .u32 0] 194)).cell (show b < w.heap.size from hxl)).trans hx
  go_enter Tryd.func119, Tryd.ntmps119
  go_wp2_with fail
  refine wp_loop_rounds 2 ?_
  rw [rounds_succ]
  go_wp2_with fail
  refine (add32_calls _ x 0 h0 (by decide) (by omega)).mono ?_
  rintro e w2 ⟨rfl, rfl⟩
  rw [Int.add_zero]
  go_wp2_with fail
  rw [rounds_succ]
  go_wp2_with fail
  refine (fin2 w x).mono ?_
  rintro e w1 ⟨c1, rfl, hc1, hr1, hb1⟩
  have HC := hid hc1
  have HR := hid hr1
  have HB := hid hb1
  clear hc1 hr1 hb1
  go_wp2_with fail
  go_ret
  exact ⟨_, c1, rfl, HC.out, HR.out, HB.out⟩

set_option maxRecDepth 100000 in
theorem add_one_one (w : World) (b o b' o' : Nat) (c c' : Nat) (x y : Int) (h0 : 0 ≤ x) (h0' : 0 ≤ y) (h1 : x + y < 4294967296) (hx : w.cell? ⟨b, o, none⟩ = some (.int .u32 x)) (hy : w.cell? ⟨b', o', none⟩ = some (.int .u32 y)) : Calls Tryd.prog 119 #[.slice (some ⟨b, o, none⟩) 1 c, .slice (some ⟨b', o', none⟩) 1 c'] w (NatNew (x + y) w) := by
  have hmk := Tryd.mk2
  have hxl := World.block_lt_of_cell? w _ hx
  have hx2 := ((below_new w (.cells #[.int .u32 0, .int .u32 0] 194)).cell (show b < w.heap.size from hxl)).trans hx
  have hyl := World.block_lt_of_cell? w _ hy
  have hy2 := ((below_new w (.cells #[.int .u32 0, .int .u32 0] 194)).cell (show b' < w.heap.size from hyl)).trans hy
  go_enter Tryd.func119, Tryd.ntmps119
  go_wp2_with fail
  refine wp_loop_rounds 2 ?_
  rw [rounds_succ]
  go_wp2_with fail
  refine (add32_calls _ x y h0 h0' (by omega)).mono ?_
  rintro e w2 ⟨rfl, rfl⟩
  go_wp2_with fail
  rw [rounds_succ]
  go_wp2_with fail
  refine (fin2 w (x + y)).mono ?_
  rintro e w1 ⟨c1, rfl, hc1, hr1, hb1⟩
  have HC := hid hc1
  have HR := hid hr1
  have HB := hid hb1
  clear hc1 hr1 hb1
  go_wp2_with fail
  go_ret
  exact ⟨_, c1, rfl, HC.out, HR.out, HB.out⟩

set_option maxRecDepth 100000 in
theorem mul_nil_one (w : World) (A : Option Addr) (c b o c' : Nat) : Calls Tryd.prog 120 #[.slice A 0 c, .slice (some ⟨b, o, none⟩) 1 c'] w (NatNew 0 w) := by
  have hmk := Tryd.mk1
  go_enter Tryd.func120, Tryd.ntmps120
  go_wp2_with fail
  refine wp_loop_rounds 1 ?_
  rw [rounds_succ]
  go_wp2_with fail
  refine (fin1 w 0).mono ?_
  rintro e w1 ⟨c1, rfl, hc1, hr1, hb1⟩
  have HC := hid hc1
  have HR := hid hr1
  have HB := hid hb1
  clear hc1 hr1 hb1
  go_wp2_with fail
  go_ret
  exact ⟨_, c1, rfl, HC.out, HR.out, HB.out⟩

set_option maxRecDepth 100000 in
theorem mul_one_one (w : World) (b o b' o' : Nat) (c c' : Nat) (x y : Int) (h0 : 0 ≤ x) (h0' : 0 ≤ y) (hx1 : x < 4294967296) (hy1 : y < 4294967296) (h1 : x * y < 4294967296) (hx : w.cell? ⟨b, o, none⟩ = some (.int .u32 x)) (hy : w.cell? ⟨b', o', none⟩ = some (.int .u32 y)) : Calls Tryd.prog 120 #[.slice (some ⟨b, o, none⟩) 1 c, .slice (some ⟨b', o', none⟩) 1 c'] w (NatNew (x * y) w) := by
  have hmk := Tryd.mk2
  have hxl := World.block_lt_of_cell? w _ hx
  have hx2 := ((below_new w (.cells #[.int .u32 0, .int .u32 0] 194)).cell (show b < w.heap.size from hxl)).trans hx
  have hyl := World.block_lt_of_cell? w _ hy
  have hy2 := ((below_new w (.cells #[.int .u32 0, .int .u32 0] 194)).cell (show b' < w.heap.size from hyl)).trans hy
  have hp : 0 ≤ x * y := Int.mul_nonneg h0 h0'
  have hz : x * y / 4294967296 = 0 := Int.ediv_eq_zero_of_lt hp h1
  have hmod : x * y % 18446744073709551616 = x * y := Int.emod_eq_of_lt hp (by omega)
  have hmod2 : x * y % 4294967296 = x * y := Int.emod_eq_of_lt hp h1
  go_enter Tryd.func120, Tryd.ntmps120
  go_wp2_with fail
  refine wp_loop_rounds 2 ?_
  rw [rounds_succ]
  go_wp2_with fail
  refine wp_loop_rounds 2 ?_
  rw [rounds_succ]
  go_wp2_with fail
  rw [rounds_succ]
  go_wp2_with fail
  rw [rounds_succ]
  go_wp2_with fail
  refine (fin2 w (x * y)).mono ?_
  rintro e w1 ⟨c1, rfl, hc1, hr1, hb1⟩
  have HC := hid hc1
  have HR := hid hr1
  have HB := hid hb1
  clear hc1 hr1 hb1
  go_wp2_with fail
  go_ret
  exact ⟨_, c1, rfl, HC.out, HR.out, HB.out⟩

end Go.Proofs.YtapebbejdgeijaaDoor
