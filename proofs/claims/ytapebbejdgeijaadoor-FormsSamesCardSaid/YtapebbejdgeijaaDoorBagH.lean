/- BagFull: the walk. -/
import Derived.Test.YtapebbejdgeijaaDoorBagG
namespace Go.Proofs.YtapebbejdgeijaaDoor
open Go.RowKit Go.Extern.Stop Go.Stop Go.Extern Go.Deep

theorem bit_i64 (j q : Nat) (hj : j < 4096) : (bits BinOp.and IntKind.i64 ((j : Int) / 2 ^ q) 1 == 1) = j.testBit q := by
  have e : ((j : Int) / 2 ^ q) = ((j / 2 ^ q : Nat) : Int) := by rw [Int.natCast_ediv, Int.natCast_pow]; rfl
  have hlt : j / 2 ^ q ≤ j := Nat.div_le_self _ _
  rw [Nat.testBit_eq_decide_div_mod_eq, e]
  generalize j / 2 ^ q = p at hlt
  have hp : bits BinOp.and IntKind.i64 (p : Int) 1 = ((p % 2 : Nat) : Int) := by
    have h1 : (BitVec.ofInt 64 1).toNat = 2 ^ 1 - 1 := by decide
    have key : (BitVec.ofInt 64 (p : Int) &&& BitVec.ofInt 64 1).toNat = ((p : Int) % ((2 ^ 64 : Nat) : Int)).toNat % 2 ^ 1 := by
      rw [BitVec.toNat_and, BitVec.toNat_ofInt, h1, Nat.and_two_pow_sub_one_eq_mod]
    show IntKind.i64.wrap ((BitVec.ofInt 64 (p : Int) &&& BitVec.ofInt 64 1).toNat : Nat) = _
    rw [key, IntKind.wrap_i64]
    omega
  rw [hp]
  rcases Nat.mod_two_eq_zero_or_one p with h | h <;> rw [h] <;> rfl

theorem mod_nat (x c : Int) (h0 : 0 < c) (h1 : c ≤ 1048576) : ∃ y : Nat, (y : Int) < c ∧ (wrap64 (x.tmod c + c)).tmod c = (y : Int) := by
  have h2 : x.tmod c < c := Int.tmod_lt_of_pos x h0
  have h3 : -c < x.tmod c := by
    rcases Int.le_total 0 x with h | h
    · have := Int.tmod_nonneg c h; omega
    · have h4 := Int.tmod_lt_of_pos (-x) h0
      rw [Int.neg_tmod] at h4
      omega
  rw [IntWalk.wrap64_in _ (by omega)]
  have h5 := Int.tmod_lt_of_pos (x.tmod c + c) h0
  have h6 := Int.tmod_nonneg (a := x.tmod c + c) c (by omega)
  exact ⟨((x.tmod c + c).tmod c).toNat, by omega, by omega⟩
theorem own_none {w : World} {base : Nat} {e : TypeId} {size n c : Nat} {A : Option Addr} {xs : List Value} (h : w.ownsRow base e size (.slice A n c) n xs) : A = none → c = 0 := by
  rintro rfl
  rcases h.2 with ⟨h, _⟩ | ⟨g, cap, cur, h, _⟩
  · simp at h; exact h.2
  · simp at h
theorem find13 (ms : List Int) (h : ∀ z ∈ ms, 0 ≤ z ∧ z < ((16 : Nat) : Int)) : bagFind (fullSets 4096) (keyB (bitsOf 16 (ms ++ [13]))) = none :=
  find_full_none (fun z hz => by
    rcases List.mem_append.1 hz with hz | hz
    · exact h z hz
    · rw [List.mem_singleton.1 hz]; decide) (fun i hi hh => by
    have := mem_blist.1 ((hh 13).2 (by simp))
    obtain ⟨q, h1, _, h2⟩ := this
    omega)
def m12 (z : Int) : Int := (wrap64 (z.tmod 12 + 12)).tmod 12
theorem m12_range (xs : List Int) : ∀ z ∈ xs.map m12, 0 ≤ z ∧ z < ((12 : Nat) : Int) := fun z hz => by
  obtain ⟨x, _, rfl⟩ := List.mem_map.1 hz
  obtain ⟨y, h1, h2⟩ := mod_nat x 12 (by decide) (by decide)
  show 0 ≤ m12 x ∧ m12 x < _
  unfold m12
  rw [h2]
  omega
theorem empty_same {xs ys : List Int} (h : ∀ z, z ∈ xs ↔ z ∈ ys) : ((xs.length : Int) == 0) = ((ys.length : Int) == 0) := by
  cases xs with
  | nil => cases ys with
    | nil => rfl
    | cons y ys => exact absurd ((h y).2 (by simp)) (by simp)
  | cons x xs => cases ys with
    | nil => exact absurd ((h x).1 (by simp)) (by simp)
    | cons y ys =>
      have e : ∀ (a : Int) (l : List Int), (((a :: l).length : Int) == 0) = false := fun a l => by rw [beq_eq_false_iff_ne, List.length_cons]; omega
      rw [e, e]
theorem members_length (n : Nat) (ws : List Int) : (members n ws).length ≤ n := by
  have := List.length_filter_le (memb ws) (List.range n); simp [members] at this ⊢; omega
theorem BagAt.notCells {w : World} {base b r n : Nat} {sets : List (List Int)} (h : BagAt w base b r n sets) : ∀ c t f, w.heap[r]? ≠ some (.cells c t f) := fun c t f hh => by
  obtain ⟨vs, rows, h⟩ := h
  obtain ⟨D, ⟨es, clock, h1, _⟩, _⟩ := h.map
  rw [h1] at hh; cases hh

set_option maxRecDepth 100000 in
set_option maxHeartbeats 1000000 in
theorem bagFull_calls (B : Nat) (S : Nat → Addr) (w : World) (hE : Env B S w) (x : Int) (A : Option Addr) (m c : Nat) (xs : List Int) (hm : m = xs.length) (hr : RI w .i64 A xs) :
    Calls Tryd.prog 3 #[.int .i64 x, .slice A m c] w (RetTrue w) := by
  have HE := hid hE
  have HR := hid hr
  have HM := hid hm
  clear hE hr hm
  go_enter Tryd.func3, Tryd.ntmps3
  go_wp2_with fail
  refine (awake09_calls B S w HE.out).mono ?_
  rintro e w1 ⟨rfl, hb1⟩
  have W1 := hid hb1
  clear hb1
  go_wp2_with fail
  refine (bagNew_at w1 16 16 rfl (by decide)).mono ?_
  rintro e w2 ⟨rfl, hbag2, hb2⟩
  have HBAG2 := hid hbag2
  have W2 := hid hb2
  clear hbag2 hb2
  go_wp2_with fail
  go_loopw [7] (fun i wr => ∃ j : Nat, j ≤ 4096 ∧ i = .int .i64 j ∧ BagAt wr w1.heap.size (w1.heap.size + 1) w1.heap.size 16 (fullSets j) ∧ Below w1.heap.size w1 wr) (fun i _ => 4096 - (intOf i).toNat)
  case atStart => exact ⟨0, by omega, rfl, HBAG2.out, W2.out⟩
  case round =>
    obtain ⟨j, hj, rfl, hbag, hb⟩ := hrel
    have HBAG := hid hbag
    have HB := hid hb
    clear hbag hb
    by_cases hlt : j < 4096
    · generalize wr = w3 at *
      go_wp2_with fail
      rw [show decide ((j : Int) < 4096) = true by simp; omega]
      go_loopw [9, 8] (fun k l wr => ∃ q n : Nat, q ≤ 12 ∧ n ≤ q ∧ k = .int .i64 q ∧ wr.ownsRow w3.heap.size 3 1 l n ((blist j q).map (Value.int .i64)) ∧ Below w3.heap.size w3 wr) (fun k _ _ => 12 - (intOf k).toNat)
      case atStart => exact ⟨0, 0, by omega, by omega, rfl, World.ownsRow_nil _ _ _ _, Below.refl _ _⟩
      case round =>
        obtain ⟨q, n, hq, hn, rfl, ho, hb⟩ := hrel
        have HO := hid ho
        have HB4 := hid hb
        clear ho hb
        by_cases hlt2 : q < 12
        · have hbit := bit_i64 j q hlt
          have hsz : w3.heap.size ≤ wr.heap.size := HB4.out.size
          have hapl : (n + 1) * 8 ≤ 140737488355328 := by omega
          cases hbq : j.testBit q with
          | true =>
            rw [hbq] at hbit
            have HBQ := hid hbq
            clear hbq
            go_wp2_with (at_builtin; refine append1 (w0 := w3) w3.heap.size (by rfl) (.tmp 45) (.tmp 47) 22 3 (.int .i64 0) 8 (by rfl) Tryd.underlying22 Tryd.infoInt (by rfl) (by decide) _ _ _ _ (by rfl) (by rfl) (by rfl) HO.out HB4.out hsz hapl ?_; intro v1 w4 o1 b1 g1 _)
            go_roundw
            case measure => simp [intOf]; omega
            case rel =>
              refine ⟨q + 1, n + 1, by omega, by omega, by go_num, ?_, b1⟩
              rw [blist_snoc, HBQ.out]
              simpa using o1
          | false =>
            rw [hbq] at hbit
            have HBQ := hid hbq
            clear hbq
            go_wp2_with fail
            go_roundw
            case measure => simp [intOf]; omega
            case rel =>
              refine ⟨q + 1, n, by omega, by omega, by go_num, ?_, HB4.out⟩
              rw [blist_snoc, HBQ.out]
              simpa using HO.out
        · obtain rfl : q = 12 := by omega
          obtain ⟨A5, c5, rfl, hc5, hm5, hri5⟩ := own_ri HO.out
          have HRI5 := hid hri5
          clear hri5 hc5
          have HFI : Hid (bagFind (fullSets j) (keyB (bitsOf 16 (blist j 12))) = none) := find_full_none (blist_range j) (fun i hi h => by have := blist_same (by omega) hlt h; omega)
          have HM5 := hid hm5
          clear hm5
          go_wp2_with fail
          refine (Put_new B S wr ((HE.out.below' W1.out).below' (below_then HB.out HB4.out HB.out.size)) w1.heap.size (w1.heap.size + 1) w1.heap.size 16 (fullSets j) A5 _ c5 (blist j 12) rfl (HBAG.out.below HB4.out) HRI5.out (blist_range j) HFI.out (by rw [fullSets_length]; exact hlt)).mono ?_
          rintro e w6 ⟨rfl, hbag6, hb6, _⟩
          rw [← fullSets_snoc] at hbag6
          rw [fullSets_length]
          have HBAG6 := hid hbag6
          have HB6 := hid (((below_then HB.out HB4.out HB.out.size)).trans hb6)
          clear hbag6 hb6
          go_wp2_with fail
          go_roundw
          case measure => simp [intOf]; omega
          case rel => exact ⟨j + 1, by omega, by go_num, HBAG6.out, HB6.out⟩
    · obtain rfl : j = 4096 := by omega
      obtain ⟨y, hy, ey⟩ := mod_nat x 4096 (by decide) (by decide)
      replace hy : y < 4096 := by omega
      go_wp2_with fail
      have hky : (fullSets 4096)[y]? = some (bitsOf 16 (blist y 12)) := by unfold fullSets; rw [List.getElem?_map, List.getElem?_range hy]; rfl
      refine (Get_at wr w1.heap.size (w1.heap.size + 1) w1.heap.size 16 _ HBAG.out y y rfl _ hky).mono ?_
      rintro e w3 ⟨v3, rfl, hown3, hb3⟩
      obtain ⟨A3, c3, rfl, hc3, hm3, hri3⟩ := own_ri hown3
      have HBAG3 := hid (HBAG.out.below hb3)
      have W3 := hid (below_then HB.out hb3 HB.out.size)
      have HOWN3 := hid hown3
      have HRI3 := hid hri3
      have HMEM : Hid (∀ z, z ∈ members 16 (bitsOf 16 (blist y 12)) ↔ z ∈ blist y 12) := fun z => mem_members_bitsOf (blist_range y)
      have HRNG : Hid (∀ z ∈ members 16 (bitsOf 16 (blist y 12)), 0 ≤ z ∧ z < ((16 : Nat) : Int)) := members_range
      have HLEN : Hid ((members 16 (bitsOf 16 (blist y 12))).length ≤ 16) := members_length 16 _
      generalize members 16 (bitsOf 16 (blist y 12)) = ms at *
      clear hown3 hb3 hri3 hc3 hm3 hky ey
      have HF3 : Hid (bagFind (fullSets 4096) (keyB (bitsOf 16 ms)) = some (y : Int)) := find_full_some hy HRNG.out (fun z => (HMEM.out z).symm)
      go_wp2_with fail
      have hE3 := (HE.out.below' W1.out).below' W3.out
      refine (Put_old B S w3 hE3 w1.heap.size (w1.heap.size + 1) w1.heap.size 16 (fullSets 4096) A3 _ c3 ms rfl y HBAG3.out HRI3.out HRNG.out HF3.out).mono ?_
      clear hE3
      rintro e w4 ⟨rfl, hbag4, hb4, hfr4⟩
      have HBAG4 := hid hbag4
      have W4 := hid (W3.out.trans hb4)
      have HOWN4 := hid (hfr4.own HOWN3.out (by decide) (by decide) (HBAG3.out.notCells))
      clear hbag4 hb4 hfr4
      go_wp2_with fail
      obtain ⟨_, _, hv4, _, hm4, hri4⟩ := own_ri HOWN4.out
      simp only [Value.slice.injEq] at hv4
      obtain ⟨rfl, -, rfl⟩ := hv4
      refine (rawCopy_calls w4 A3 c3 ms hri4 (own_none HOWN4.out) (by have := HLEN.out; omega)).mono ?_
      clear hri4 hm4
      rintro e w5 ⟨v5, rfl, hown5, hb5⟩
      obtain ⟨A5, c5, rfl, _, _⟩ := own_slice hown5
      have HO5 := hid hown5
      have HB5 := hid hb5
      have hsz5 : w4.heap.size ≤ w5.heap.size := hb5.size
      have hapl : (ms.length + 1) * 8 ≤ 140737488355328 := by have := HLEN.out; omega
      clear hown5 hb5
      have HBAG5 := hid (HBAG4.out.below HB5.out)
      have W5 := hid (below_then W4.out HB5.out W4.out.size)
      go_wp2_with (at_builtin; refine append1 (w0 := w4) w4.heap.size (by rfl) (.tmp 89) (.tmp 90) 22 3 (.int .i64 0) 8 (by rfl) Tryd.underlying22 Tryd.infoInt (by rfl) (by decide) _ _ _ _ (by rfl) (by rfl) (by rfl) HO5.out HB5.out hsz5 hapl ?_; intro v6 w6 o6 b6 g6 _; obtain ⟨A6, c6, hv6, _, _⟩ := own_slice o6; subst hv6)
      have HO6 : Hid (w6.ownsRow w4.heap.size 3 1 (.slice A6 (ms.length + 1) c6) (ms.length + 1) ((ms ++ [13]).map (Value.int .i64))) := by rw [List.map_append]; exact o6
      have HBAG6 := hid (HBAG4.out.below b6)
      have W6 := hid (below_then W4.out b6 W4.out.size)
      obtain ⟨_, _, hv6, _, hm6, hri6⟩ := own_ri HO6.out
      simp only [Value.slice.injEq] at hv6
      obtain ⟨rfl, -, rfl⟩ := hv6
      have HRI6 := hid hri6
      have HM6 := hid hm6
      clear hri6 hm6 b6 g6 o6 HO5
      have hE6 := (HE.out.below' W1.out).below' W6.out
      have HR6 : Hid (∀ z ∈ ms ++ [13], 0 ≤ z ∧ z < ((16 : Nat) : Int)) := fun z hz => by
        rcases List.mem_append.1 hz with hz | hz
        · exact HRNG.out z hz
        · rw [List.mem_singleton.1 hz]; decide
      refine (Put_full B S w6 hE6 w1.heap.size (w1.heap.size + 1) w1.heap.size 16 (fullSets 4096) A6 _ c6 (ms ++ [13]) HM6.out.symm HBAG6.out HRI6.out HR6.out (find13 ms HRNG.out) (fullSets_length 4096)).mono ?_
      clear hE6
      rintro e w7 ⟨v7, rfl, hch7, hbag7, hb7, hfr7⟩
      obtain ⟨t7, a7, rfl⟩ := hch7.form
      have HBAG7 := hid hbag7
      have HCH7 := hid hch7
      have W7 := hid (W6.out.trans hb7)
      clear hbag7 hch7 hb7 hfr7
      go_wp2_with fail
      have L7 : Hid (Below w7.heap.size w7 (w7.alloc (.cells #[.int .i64 13] 3))) := below_new _ _
      have V7 := hid (below_then W7.out L7.out W7.out.size)
      have hE7 := (HE.out.below' W1.out).below' V7.out
      refine (Find_calls B S _ hE7 w1.heap.size (w1.heap.size + 1) w1.heap.size 16 (fullSets 4096) (some ⟨w7.heap.size, 0, none⟩) 1 [13] (HBAG7.out.below L7.out) (ri_block (e := 3) (f := (0, 0)) (heap_alloc_new w7 _) (by decide))).mono ?_
      clear hE7
      rintro e w8 ⟨hb8, hp⟩
      rw [show firstBad 16 [13] = none from by decide, show bagFind (fullSets 4096) (keyB (bitsOf 16 [13])) = none from find13 [] (by simp)] at hp
      obtain rfl := hp
      have W8 := hid (below_then V7.out hb8 V7.out.size)
      have HBAG8 := hid (HBAG7.out.below (below_then L7.out hb8 L7.out.size))
      have HCH8 := hid (Chain.below (below_then L7.out hb8 L7.out.size) HCH7.out)
      clear hb8
      go_wp2_with fail
      refine (rawNew_calls w8 _ _ _).mono ?_
      rintro e w9 ⟨v9, rfl, herr9, hb9⟩
      obtain ⟨ga, gb, rfl, hga, hgb⟩ := herr9
      have W9 := hid (below_then W8.out hb9 W8.out.size)
      have HBAG9 := hid (HBAG8.out.below hb9)
      have HCH9 := hid (Chain.below hb9 HCH8.out)
      have HERR9 : Hid (ErrVal w9 0 (.agg #[.int .i64 4, ga, gb]) 4 [(opBag, 0)]) := ⟨_, _, rfl, own_base hga (Nat.zero_le _), own_base hgb (Nat.zero_le _)⟩
      clear hga hgb hb9
      go_wp2_with fail
      have hE9 := (HE.out.below' W1.out).below' W9.out
      refine (rawIs_err B S w9 hE9 _ 4 _ HCH9.out (by decide) _ HERR9.out (by simp)).mono ?_
      clear hE9
      rintro e w10 ⟨rfl, hb10⟩
      have W10 := hid (below_then W9.out hb10 W9.out.size)
      have HBAG10 := hid (HBAG9.out.below hb10)
      clear hb10
      go_wp2_with fail
      refine (bagLen_calls w10 _ _ _ _ _ HBAG10.out).mono ?_
      rintro e w11 ⟨rfl, rfl⟩
      rw [fullSets_length]
      by_cases hm100 : 100 < m
      · go_wp2_with fail
        go_ret
        exact ⟨rfl, below_then W1.out W10.out W1.out.size⟩
      · go_wp2_with fail
        rw [show decide ((100 : Int) < (m : Int)) = false by simp; omega]
        go_loopw [22, 21] (fun i t wr => ∃ k : Nat, k ≤ m ∧ i = .int .i64 k ∧ wr.ownsRow w10.heap.size 3 1 t k (((xs.take k).map m12).map (Value.int .i64)) ∧ Below w10.heap.size w10 wr) (fun i _ _ => m - (intOf i).toNat)
        case atStart => exact ⟨0, by omega, rfl, World.ownsRow_nil _ _ _ _, Below.refl _ _⟩
        case round =>
          obtain ⟨k, hk, rfl, ho, hb⟩ := hrel
          have HO := hid ho
          have HBK := hid hb
          clear ho hb
          have WK := hid (below_then W1.out (below_then W10.out HBK.out W10.out.size) W1.out.size)
          by_cases hkm : k < m
          · obtain ⟨bA, oA, z, rfl, hzk, hcell⟩ := (HR.out.below WK.out (Nat.le_refl _)).at_ (show k < xs.length by rw [← HM.out]; exact hkm)
            have HZK := hid hzk
            clear hzk
            have hszk : w10.heap.size ≤ wr.heap.size := HBK.out.size
            have haplk : (k + 1) * 8 ≤ 140737488355328 := by omega
            go_wp2_with (at_builtin; refine append1 (w0 := w10) w10.heap.size (by rfl) (.tmp 144) (.tmp 152) 22 3 (.int .i64 0) 8 (by rfl) Tryd.underlying22 Tryd.infoInt (by rfl) (by decide) _ _ _ _ (by rfl) (by rfl) (by rfl) HO.out HBK.out hszk haplk ?_; intro v11 w11 o11 b11 g11 _)
            go_roundw
            case measure => simp [intOf]; omega
            case rel =>
              refine ⟨k + 1, by omega, by go_num, ?_, b11⟩
              obtain ⟨hk1, hk2⟩ := List.getElem?_eq_some_iff.1 HZK.out
              rw [List.take_succ_eq_append_getElem hk1, hk2, List.map_append, List.map_append]
              exact o11
          · have hke : k = m := by omega
            have HKE := hid hke
            have HO2 : Hid (wr.ownsRow w10.heap.size 3 1 u21 k ((xs.map m12).map (Value.int .i64))) := by
              have := HO.out
              rw [HKE.out, HM.out, List.take_length] at this
              rw [HKE.out, HM.out]; exact this
            clear hke
            obtain ⟨A12, c12, rfl, _, hm12, hri12⟩ := own_ri HO2.out
            have HM12 := hid hm12
            have HRI12 := hid hri12
            clear hm12 hri12
            have HR12 : Hid (∀ z ∈ xs.map m12, 0 ≤ z ∧ z < ((12 : Nat) : Int)) := m12_range xs
            clear HO2
            generalize xs.map m12 = ts at *
            obtain ⟨y2, hy2, hmem2⟩ := mask_exists ts HR12.out
            have HMEM2 := hid hmem2
            have HR12' : Hid (∀ z ∈ ts, 0 ≤ z ∧ z < ((16 : Nat) : Int)) := fun z hz => by have := HR12.out z hz; omega
            have HF12 := hid (find_full_some hy2 HR12'.out HMEM2.out)
            have HBAG12 := hid (HBAG10.out.below HBK.out)
            clear hmem2
            clear HM12
            go_wp2_with fail
            have hE12 := HE.out.below' WK.out
            refine (Put_old B S wr hE12 w1.heap.size (w1.heap.size + 1) w1.heap.size 16 (fullSets 4096) A12 _ c12 ts rfl y2 HBAG12.out HRI12.out HR12'.out HF12.out).mono ?_
            clear hE12
            rintro e w13 ⟨rfl, hbag13, hb13, _⟩
            have HBAG13 := hid hbag13
            have W13 := hid ((below_then W10.out HBK.out W10.out.size).trans hb13)
            clear hbag13 hb13
            go_wp2_with fail
            have hky2 : (fullSets 4096)[y2]? = some (bitsOf 16 (blist y2 12)) := by unfold fullSets; rw [List.getElem?_map, List.getElem?_range hy2]; rfl
            refine (Get_at w13 w1.heap.size (w1.heap.size + 1) w1.heap.size 16 _ HBAG13.out y2 y2 rfl _ hky2).mono ?_
            rintro e w14 ⟨v14, rfl, hown14, hb14⟩
            obtain ⟨A14, c14, rfl, _, hm14, _⟩ := own_ri hown14
            have W14 := hid (below_then W1.out (below_then W13.out hb14 W13.out.size) W1.out.size)
            have hmm : ∀ z, z ∈ members 16 (bitsOf 16 (blist y2 12)) ↔ z ∈ ts := fun z => (mem_members_bitsOf (blist_range y2)).trans (HMEM2.out z)
            have hMM := empty_same hmm
            clear hmm hm14 hown14 hb14 hky2
            generalize (members 16 (bitsOf 16 (blist y2 12))).length = M2 at *
            generalize ts.length = L2 at *
            go_wp2_with fail
            go_ret
            exact ⟨rfl, W14.out⟩
end Go.Proofs.YtapebbejdgeijaaDoor
