/- slices.Repeat of one number. -/
import Derived.Test.YtapebbejdgeijaaDoorGrA
import Derived.Test.YtapebbejdgeijaaDoorFormB
import Derived.Deep.RegionLaw
import Derived.WalkSmall
namespace Go.Proofs.YtapebbejdgeijaaDoor
open Go.RowKit Go.Extern.Stop Go.Stop Go.Extern Go.Deep Tar

theorem and_low_u64 (n : Nat) (hn : n ≤ 16384) : bits BinOp.and IntKind.u64 (n : Int) 4294967295 = (n : Int) := by
  have h := bits_and_u64_nat n 4294967295 (by omega) (by decide)
  rw [show n &&& 4294967295 = n from by
    have := Nat.and_two_pow_sub_one_eq_mod n 32
    rw [show 2 ^ 32 - 1 = 4294967295 by decide] at this
    rw [this]; omega] at h
  exact h
set_option maxRecDepth 100000 in
theorem mul64_one (w : World) (n : Nat) (hn : n ≤ 16384) :
    Calls Tryd.prog 130 #[.int .u64 1, .int .u64 n] w fun e w' => e = .returned (.tuple #[.int .u64 0, .int .u64 n]) ∧ w' = w := by
  have a1 : bits BinOp.and IntKind.u64 1 4294967295 = 1 := by have := and_low_u64 1 (by decide); simpa using this
  have a2 := and_low_u64 n hn
  have a3 : bits BinOp.and IntKind.u64 0 4294967295 = 0 := by have := and_low_u64 0 (by decide); simpa using this
  have a4 : (n : Int) / 4294967296 = 0 := by omega
  have a5 : IntKind.u64.wrap (n : Int) = (n : Int) := by rw [IntKind.wrap_u64]; omega
  have a6 : IntKind.u64.wrap 0 = 0 := by rw [IntKind.wrap_u64]; omega
  go_enter Tryd.func130, Tryd.ntmps130
  go_wp2_with fail
  try simp only [a1, a2, a3, a4, a5, a6, Int.one_mul, Int.zero_mul, Int.mul_zero, Int.add_zero, Int.zero_ediv]
  go_ret2
  exact ⟨rfl, rfl⟩

set_option maxRecDepth 100000 in
theorem bitsMul_one (w : World) (n : Nat) (hn : n ≤ 16384) :
    Calls Tryd.prog 109 #[.int .u64 1, .int .u64 n] w fun e w' => e = .returned (.tuple #[.int .u64 0, .int .u64 n]) ∧ w' = w := by
  go_enter Tryd.func109, Tryd.ntmps109
  go_wp2_with fail
  refine (mul64_one w n hn).mono ?_
  rintro e w' ⟨rfl, rfl⟩
  go_wp2_with fail
  go_ret2
  exact ⟨rfl, rfl⟩

/-! ### a row told by a function -/
def tabI (n : Nat) (f : Nat → Int) : List Int := (List.range n).map f
theorem tabI_length (n : Nat) (f : Nat → Int) : (tabI n f).length = n := by simp [tabI]
theorem tabI_at {n : Nat} {f : Nat → Int} {j : Nat} (h : j < n) : (tabI n f)[j]? = some (f j) := by
  unfold tabI; rw [List.getElem?_map, List.getElem?_range h]; rfl
theorem tabI_set {n : Nat} {f : Nat → Int} (j : Nat) (x : Int) : (tabI n f).set j x = tabI n (upd f j x) := by
  apply List.ext_getElem?
  intro i
  rw [List.getElem?_set]
  by_cases hi : i < n
  · rw [tabI_at hi]
    by_cases e : j = i
    · subst e; rw [if_pos rfl, if_pos (by rw [tabI_length]; exact hi), tabI_at hi, upd_same]
    · rw [if_neg e, tabI_at hi, upd_ne _ _ _ (Ne.symm e)]
  · have h1 : (tabI n f)[i]? = none := List.getElem?_eq_none_iff.2 (by rw [tabI_length]; omega)
    have h2 : (tabI n (upd f j x))[i]? = none := List.getElem?_eq_none_iff.2 (by rw [tabI_length]; omega)
    rw [h2]
    split
    · rw [if_neg (by rw [tabI_length]; omega)]
    · exact h1
theorem tabI_congr {n : Nat} {f f' : Nat → Int} (h : ∀ j, j < n → f j = f' j) : tabI n f = tabI n f' := by
  unfold tabI
  apply List.map_congr_left
  intro j hj
  exact h j (List.mem_range.1 hj)
theorem tabI_const (n : Nat) (x : Int) : List.replicate n x = tabI n (fun _ => x) := by
  apply List.ext_getElem?
  intro i
  by_cases hi : i < n
  · rw [tabI_at hi, List.getElem?_replicate, if_pos hi]
  · rw [List.getElem?_replicate, if_neg hi, List.getElem?_eq_none_iff.2 (by rw [tabI_length]; omega)]

def reps (n k : Nat) (x : Int) : List Value := (List.replicate k x ++ List.replicate (n - k) 0).map (Value.int .i64)
theorem reps_splice (n k q : Nat) (x : Int) (hk : k + q ≤ n) : splice (reps n k x) k ((List.replicate q x).map (Value.int .i64)) = reps n (k + q) x := by
  unfold reps splice
  simp only [List.map_append, List.map_replicate]
  rw [List.take_append_of_le_length (by simp), List.take_of_length_le (by simp), List.drop_append, List.drop_replicate, List.length_replicate, List.length_replicate, List.drop_replicate]
  rw [show k - (k + q) = 0 by omega, show n - k - (k + q - k) = n - (k + q) by omega]
  simp only [List.replicate_zero, List.nil_append]
  rw [← List.append_assoc, List.replicate_append_replicate]

theorem reps_start (w : World) (n : Nat) (x : Int) : (w.alloc (.cells (madeCells #[.int .i64 0] n) 3)).heap[w.heap.size]? = some (.cells (reps n 0 x).toArray 3 (0, 0)) := by
  rw [heap_alloc_new]
  have e : madeCells #[Value.int .i64 0] n = (reps n 0 x).toArray := Array.ext' (by rw [toList_madeCells_one]; simp [reps])
  rw [e]
theorem reps_full (n : Nat) (x : Int) : reps n n x = (tabI n fun _ => x).map (Value.int .i64) := by
  unfold reps
  rw [← tabI_const, Nat.sub_self, List.replicate_zero, List.append_nil]
theorem reps_at {n k : Nat} {x : Int} {j : Nat} (hj : j < k) : (reps n k x)[j]? = some (.int .i64 x) := by
  unfold reps
  rw [List.getElem?_map, List.getElem?_append_left (by simpa using hj), List.getElem?_replicate, if_pos hj]
  rfl
theorem reps_length (n k : Nat) (x : Int) (hk : k ≤ n) : (reps n k x).length = n := by simp [reps]; omega

theorem rep_src {W : World} {g q : Nat} {x : Int} {dp : Addr} (hq : q ≤ 1) (h : W.cell? ⟨g, 0, none⟩ = some (.int .i64 x)) : 0 < ((List.replicate q x).map (Value.int .i64)).length → some dp = some dp ∧ ∃ ad, some (⟨g, 0, none⟩ : Addr) = some ad ∧ ∀ j v, ((List.replicate q x).map (Value.int .i64))[j]? = some v → W.cell? (ad.add j) = some v := fun _ =>
  ⟨rfl, _, rfl, fun j v hj => by
    have hjl := (List.getElem?_eq_some_iff.1 hj).1
    simp at hjl
    obtain rfl : j = 0 := by omega
    rw [addr_add]
    rw [List.getElem?_map, List.getElem?_replicate, if_pos (by omega)] at hj
    obtain rfl := Option.some.inj hj
    exact h⟩
theorem rep_src2 {W : World} {g n k q : Nat} {x : Int} {dp : Addr} (hq : q ≤ k) (h : W.heap[g]? = some (.cells (reps n k x).toArray 3 (0, 0))) : 0 < ((List.replicate q x).map (Value.int .i64)).length → some dp = some dp ∧ ∃ ad, some (⟨g, 0, none⟩ : Addr) = some ad ∧ ∀ j v, ((List.replicate q x).map (Value.int .i64))[j]? = some v → W.cell? (ad.add j) = some v := fun _ =>
  ⟨rfl, _, rfl, fun j v hj => by
    have hjl := (List.getElem?_eq_some_iff.1 hj).1
    simp at hjl
    rw [addr_add]
    rw [List.getElem?_map, List.getElem?_replicate, if_pos (by omega)] at hj
    obtain rfl := Option.some.inj hj
    have h1 := reps_at (n := n) (x := x) (show j < k by omega)
    simp [World.cell?, h, h1]⟩

set_option maxRecDepth 100000 in
theorem repeat_calls (w : World) (g : Nat) (x : Int) (n : Nat) (hn : n ≤ 16384) (hg : w.heap[g]? = some (.cells #[.int .i64 x] 3 (0, 0))) :
    Calls Tryd.prog 74 #[.slice (some ⟨g, 0, none⟩) 1 1, .int .i64 n] w fun e w' => e = .returned (.slice (some ⟨w.heap.size, 0, none⟩) n n) ∧ IntBlk w' w.heap.size (tabI n fun _ => x) ∧ Below w.heap.size w w' := by
  have hmk := run_make_row' (P := Tryd.prog) 22 3 (.int .i64 0) 8 Tryd.underlying22 Tryd.infoInt rfl .i64 .i64 n (by omega) (by omega)
  have HB : Hid (Below w.heap.size w (w.alloc (.cells (madeCells #[.int .i64 0] n) 3))) := below_new _ _
  have HG := hid hg
  have HG0 : Hid ((w.alloc (.cells (madeCells #[.int .i64 0] n) 3)).heap[w.heap.size]? = some (.cells (reps n 0 x).toArray 3 (0, 0))) := reps_start w n x
  obtain ⟨q, hq⟩ : ∃ q, q = Nat.min 1 n := ⟨_, rfl⟩
  have hqn : q ≤ n := by rw [hq]; exact Nat.min_le_right 1 n
  have HQ1 : Hid (q = 0 → n = 0) := fun h => by
    have h1 : min 1 n = 0 := by rw [hq] at h; exact h
    omega
  have HN : Hid (((List.replicate q x).map (Value.int .i64)).length = Nat.min 1 n) := by show _ = _; rw [← hq]; simp
  have hq1 : q ≤ 1 := by rw [hq]; exact Nat.min_le_left 1 n
  have HG1 : Hid ((w.alloc (.cells (madeCells #[.int .i64 0] n) 3)).cell? ⟨g, 0, none⟩ = some (.int .i64 x)) := by
    show _ = _
    rw [World.cell?_alloc_lt _ _ ⟨g, 0, none⟩ (Array.getElem?_eq_some_iff.1 hg).1]
    simp [World.cell?, hg]
  have HFT : Hid (0 + ((List.replicate q x).map (Value.int .i64)).length ≤ (reps n 0 x).length) := by show _ ≤ _; rw [reps_length _ _ _ (Nat.zero_le _)]; simp; omega
  clear hq hg
  go_enter Tryd.func74, Tryd.ntmps74
  go_wp2_with fail
  refine (bitsMul_one w n hn).mono ?_
  rintro e w' ⟨rfl, hw'⟩
  obtain rfl := hw'.symm
  go_wp2_with (refine wpList_copy_splice (by rfl) (.tmp 31) (.tmp 32) 22 22 (by rfl) 3 Tryd.underlying22 intSize _ _ _ _ _ _ (by rfl) (by rfl) w.heap.size 0 _ 3 HG0.out ((List.replicate q x).map (Value.int .i64)) HN.out (rep_src hq1 HG1.out) HFT.out (int_oneCell _ _) w.heap.size w HB.out (Nat.le_refl _) ?_; intro w4 hg4 hb4; have HG4 : Hid (w4.heap[w.heap.size]? = some (.cells (reps n q x).toArray 3 (0, 0))) := (by have h := hg4.out; have h2 := reps_splice n 0 q x (by omega); rw [Nat.zero_add] at h2; rw [h2] at h; exact h); have HB4 := hid hb4; clear hg4 hb4)
  rw [show decide ((9223372036854775807 : Int) < (n : Int)) = false from decide_eq_false (by omega), show decide ((n : Int) < 0) = false from decide_eq_false (by omega)]
  clear HG0 HN HFT HB HG HG1 hmk
  go_loopw [8] (fun i wr => ∃ k : Nat, k ≤ n ∧ (k = 0 → n = 0) ∧ i = .int .i64 k ∧ wr.heap[w.heap.size]? = some (.cells (reps n k x).toArray 3 (0, 0)) ∧ Below w.heap.size w wr) (fun i _ => n - (intOf i).toNat)
  case atStart => exact ⟨q, hqn, HQ1.out, rfl, HG4.out, HB4.out⟩
  case round =>
    obtain ⟨k, hk, hk0, rfl, hgk, hbk⟩ := hrel
    have HGK := hid hgk
    have HBK := hid hbk
    have HK0 := hid hk0
    clear hgk hbk hk0
    by_cases hlt : k < n
    · obtain ⟨q2, hq2⟩ : ∃ q2, q2 = Nat.min k (n - k) := ⟨_, rfl⟩
      have h2k : q2 ≤ k := by rw [hq2]; exact Nat.min_le_left _ _
      have h2n : k + q2 ≤ n := by have : q2 ≤ n - k := (by rw [hq2]; exact Nat.min_le_right _ _); omega
      have HQ2 : Hid (((List.replicate q2 x).map (Value.int .i64)).length = Nat.min k (n - k)) := by show _ = _; rw [List.length_map, List.length_replicate]; exact hq2
      have HFT2 : Hid (k + ((List.replicate q2 x).map (Value.int .i64)).length ≤ (reps n k x).length) := by show _ ≤ _; rw [reps_length _ _ _ hk]; simp; omega
      have HGd : Hid (wr.drew.heap[w.heap.size]? = some (.cells (reps n k x).toArray 3 (0, 0))) := HGK.out
      have HBd : Hid (Below w.heap.size w wr.drew) := Below.drew HBK.out
      have e1 : IntKind.i64.wrap ((k : Int) + (q2 : Int)) = ((k + q2 : Nat) : Int) := by rw [IntKind.wrap_i64]; omega
      have hnk : ¬ n = k := by omega
      have h2p : 0 < q2 := by
        have h1 : q2 = min k (n - k) := hq2
        have : k ≠ 0 := fun h => by have := HK0.out h; omega
        omega
      clear hq2
      go_wp2_with fail
      go_region_law (refine step_copy_splice (w := wr.drew) rfl (.tmp 41) (.tmp 44) 22 22 rfl 3 Tryd.underlying22 intSize (some ⟨w.heap.size, k, none⟩) (some ⟨w.heap.size, 0, none⟩) (n - k) (n - k) k n (by go_simp) (by go_simp) w.heap.size k (reps n k x) 3 HGd.out ((List.replicate q2 x).map (Value.int .i64)) HQ2.out (rep_src2 h2k HGd.out) HFT2.out (int_oneCell _ _) w.heap.size w HBd.out (Nat.le_refl _) ?_; intro w4 hg4 hb4)
      go_simp
      go_roundw
      case measure => simp [intOf]; omega
      case rel =>
        have h := hg4.out
        rw [reps_splice n k q2 x h2n] at h
        exact ⟨.int .i64 ((k : Int) + (q2 : Int)), _, _, _, _, _, _, _, _, _, _, _, _, _, ⟨k + q2, h2n, fun _ => by omega, by go_num, h, hb4⟩, rfl⟩
    · have hke : k = n := by omega
      have HK := hid hke
      have HGN : Hid (IntBlk wr w.heap.size (tabI n fun _ => x)) := by
        have h := HGK.out
        rw [HK.out, reps_full] at h
        exact h
      clear hke
      go_wp2_with fail
      go_ret
      exact ⟨rfl, HGN.out, HBK.out⟩

/-- Graph lists in memory. -/
def GrAt (w : World) (A : Option Addr) (gs : List (List Int)) : Prop := RII w .i64 A gs ∧ GOk gs
theorem GrAt.below {w w' : World} {A : Option Addr} {gs : List (List Int)} (h : GrAt w A gs) (hb : Below w.heap.size w w') : GrAt w' A gs := ⟨h.1.below hb (Nat.le_refl _), h.2⟩
theorem GrAt.row {w : World} {A : Option Addr} {gs : List (List Int)} (h : GrAt w A gs) {v : Nat} (hv : v < gs.length) :
    ∃ b o A' c, A = some ⟨b, o, none⟩ ∧ w.cell? ⟨b, o + v, none⟩ = some (.slice A' (natG gs v).length c) ∧ (natG gs v).length ≤ c ∧ RI w .i64 A' (ints (natG gs v)) := by
  obtain ⟨b, o, xs, A', c, rfl, hx, hc, hl, hr⟩ := h.1.at_ hv
  have e := natG_ints h.2 hx
  have hlen : (natG gs v).length = xs.length := by rw [← e]; simp
  exact ⟨b, o, A', c, rfl, by rw [hlen]; exact hc, by rw [hlen]; exact hl, by rw [show ints (natG gs v) = xs from e]; exact hr⟩
theorem GrAt.rowLen {w : World} {A : Option Addr} {gs : List (List Int)} (h : GrAt w A gs) (v : Nat) : (natG gs v).length ≤ 262144 := natG_len h.2 v
end Go.Proofs.YtapebbejdgeijaaDoor
