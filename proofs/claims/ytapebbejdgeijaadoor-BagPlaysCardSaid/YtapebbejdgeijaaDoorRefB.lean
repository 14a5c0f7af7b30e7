/- The reference bag: sort.Ints at a row of one's own; set. -/
import Derived.Test.YtapebbejdgeijaaDoorRefA
import Derived.Test.YtapebbejdgeijaaDoorShSort
import Derived.Sort.OwnSortedInts
namespace Go.Proofs.YtapebbejdgeijaaDoor
open Go.RowKit Go.Extern.Stop Go.Stop Go.Extern Go.Deep

def sortI (zs : List Int) : List Int := zs.mergeSort fun x y => decide (x ≤ y)
theorem sortI_length (zs : List Int) : (sortI zs).length = zs.length := List.length_mergeSort zs
theorem mem_sortI {zs : List Int} {z : Int} : z ∈ sortI zs ↔ z ∈ zs := List.mem_mergeSort
theorem sortI_sorted (zs : List Int) : (sortI zs).Pairwise (· ≤ ·) := by
  have := List.pairwise_mergeSort (le := fun x y : Int => decide (x ≤ y)) (fun a b c h1 h2 => by simp at *; omega) (fun a b => by simp; omega) zs
  exact this.imp (fun h => by simpa using h)

theorem sortInts_calls (w : World) (base n : Nat) (v : Value) (zs : List Int) (ho : w.ownsRow base 3 1 v n (zs.map (Value.int .i64))) (hn : n < 4611686018427387904) :
    Calls Tryd.prog 117 #[v] w fun e w' => e = .returned (.tuple #[]) ∧ w'.ownsRow base 3 1 v n ((sortI zs).map (Value.int .i64)) ∧ Below base w w' ∧ w.grownBy w' v.ownBlock := by
  have hl : zs.length = n := by have := ho.1; simpa using this
  rcases ho.2 with ⟨rfl, h0⟩ | ⟨g, cap, cur, rfl, hb, hh, h1, h2, h3, h4⟩
  · subst h0
    refine (Tryd.sort_Ints_none none 0 w).mono ?_
    rintro e w' ⟨rfl, rfl⟩
    obtain rfl : zs = [] := List.eq_nil_of_length_eq_zero hl
    refine ⟨rfl, ?_, Below.refl _ _, rfl, rfl, rfl, Nat.le_refl _, fun _ _ _ => rfl⟩
    rw [show sortI [] = [] from List.mergeSort_nil]
    exact ho
  · subst hl
    have hg : g < w.heap.size := (Array.getElem?_eq_some_iff.1 hh).1
    refine (Tryd.sort_Ints g 0 cap zs w (holds_of_blockI hh (by simpa using h4)) hg hn).mono ?_
    rintro e w' ⟨rfl, m, os, rfl⟩
    have hgr := grownBy_sortedI (w := w) (g := g) (n := m) (os := os) (sortI zs).toArray
    refine ⟨rfl, ownsRow_sortedI (sortI_length zs) hb hh h1 h2 h3, (Below.refl base w).grown hgr (Nat.le_trans hb (Nat.le_of_lt hg)) (fun k hk => by obtain rfl := Option.some.inj hk; exact hb), hgr⟩

/-! ### each number once -/
def ddAt (l : List Int) (i : Nat) : Bool := i == 0 || l.getD i 0 != l.getD (i - 1) 0
def dd (l : List Int) (k : Nat) : List Int := ((List.range k).filter (ddAt l)).map fun i => l.getD i 0
theorem dd_snoc (l : List Int) (k : Nat) : dd l (k + 1) = dd l k ++ (if ddAt l k = true then [l.getD k 0] else []) := by
  unfold dd
  rw [List.range_succ, List.filter_append, List.map_append]
  congr 1
  by_cases h : ddAt l k = true <;> simp [h]
theorem dd_length (l : List Int) (k : Nat) : (dd l k).length ≤ k := by
  have := List.length_filter_le (ddAt l) (List.range k); simp [dd] at this ⊢; omega
def rset (xs : List Int) : List Int := dd (sortI xs) (sortI xs).length
theorem rset_length (xs : List Int) : (rset xs).length ≤ xs.length := by
  have := dd_length (sortI xs) (sortI xs).length
  rw [sortI_length] at this
  unfold rset; rw [sortI_length]; exact this

set_option maxRecDepth 100000 in
theorem rset_calls (w : World) (A : Option Addr) (m c : Nat) (xs : List Int) (hm : m = xs.length) (hr : RI w .i64 A xs) (hA : A = none → c = 0) (hl : xs.length * 8 ≤ 140737488355328) :
    Calls Tryd.prog 88 #[.slice A m c] w fun e w' => ∃ v, e = .returned v ∧ w'.ownsRow w.heap.size 3 1 v (rset xs).length ((rset xs).map (Value.int .i64)) ∧ Below w.heap.size w w' := by
  subst hm
  have HR := hid hr
  have HAA := hid hA
  clear hr hA
  go_enter Tryd.func88, Tryd.ntmps88
  go_wp2_with fail
  refine (rawCopy_calls w A c xs HR.out HAA.out hl).mono ?_
  rintro e w1 ⟨v1, rfl, hown1, hb1⟩
  obtain ⟨A1, c1, rfl, _, _⟩ := own_slice hown1
  have HO1 := hid hown1
  have HB1 := hid hb1
  clear hown1 hb1
  go_wp2_with fail
  refine (sortInts_calls w1 w.heap.size _ _ xs HO1.out (by omega)).mono ?_
  rintro e w2 ⟨rfl, hown2, hb2, _⟩
  have HO2 := hid hown2
  have HB2 := hid (HB1.out.trans hb2)
  have HL : Hid ((sortI xs).length = xs.length) := sortI_length xs
  have HRS : Hid (rset xs = dd (sortI xs) xs.length) := by unfold rset; rw [sortI_length]; rfl
  generalize sortI xs = l at *
  obtain ⟨A2, c2, hv2, hc2, hm2, hri2⟩ := own_ri HO2.out
  simp only [Value.slice.injEq] at hv2
  obtain ⟨rfl, -, rfl⟩ := hv2
  have HRI := hid hri2
  clear hown2 hb2 hri2 hm2 hc2 HO1
  obtain ⟨m, hm⟩ : ∃ m, m = xs.length := ⟨_, rfl⟩
  have HM := hid hm
  rw [← hm]
  have hml : m * 8 ≤ 140737488355328 := by omega
  clear hm hl
  go_wp2_with fail
  go_loopw [5, 4] (fun i v wr => ∃ k q : Nat, k ≤ m ∧ q ≤ k ∧ i = .int .i64 k ∧ wr.ownsRow w2.heap.size 3 1 v q ((dd l k).map (Value.int .i64)) ∧ Below w2.heap.size w2 wr) (fun i _ _ => m - (intOf i).toNat)
  case atStart => exact ⟨0, 0, Nat.zero_le _, Nat.le_refl _, rfl, World.ownsRow_nil _ _ _ _, Below.refl _ _⟩
  case round =>
    obtain ⟨k, q, hk, hq, rfl, ho, hb⟩ := hrel
    have HO := hid ho
    have HB := hid hb
    clear ho hb
    by_cases hlt : k < m
    · have hszk : w2.heap.size ≤ wr.heap.size := HB.out.size
      have haplk : (q + 1) * 8 ≤ 140737488355328 := by omega
      obtain ⟨bA, oA, x, hA, hxk, hc⟩ := (HRI.out.below HB.out (Nat.le_refl _)).at_ (show k < l.length by rw [HL.out, ← HM.out]; exact hlt)
      subst hA
      have HXK := hid hxk
      clear hxk
      have hgx : l.getD k 0 = x := by rw [List.getD_eq_getElem?_getD, HXK.out]; rfl
      have HGX := hid hgx
      clear hgx
      have i0 : (0 : Int) ≤ (k : Int) := by omega
      have i1 : (k : Int) < (m : Int) := by omega
      have fin : ∀ (n1 : Nat) (v1 : Value) (w3 : World), ddAt l k = true → w3.ownsRow w2.heap.size 3 1 v1 (q + 1) ((dd l k).map (Value.int .i64) ++ [.int .i64 x]) → w3.ownsRow w2.heap.size 3 1 v1 (q + 1) ((dd l (k + 1)).map (Value.int .i64)) := fun _ _ _ h o => by
        rw [dd_snoc, if_pos h, HGX.out, List.map_append]; exact o
      have FIN := hid fin
      clear fin
      by_cases hk0 : k = 0
      · have hd0 : ((k : Int) == 0) = true := by rw [hk0]; rfl
        have HD : Hid (ddAt l k = true) := by rw [hk0]; rfl
        have HK0 := hid hk0
        clear hk0
        go_wp2_with fail
        go_quiet (fail)
        go_wp2_with (at_builtin; refine append1 (w0 := w2) w2.heap.size (by rfl) (.tmp 30) (.tmp 35) 22 3 (.int .i64 0) 8 (by rfl) Tryd.underlying22 Tryd.infoInt (by rfl) (by decide) _ _ _ _ (by rfl) (by rfl) (by rfl) HO.out (below_drawn HB.out _) hszk haplk ?_; intro v3 w3 o3 b3 g3 _)
        go_roundw
        case measure => simp [intOf]; omega
        case rel => exact ⟨k + 1, q + 1, by omega, by omega, by go_num, FIN.out 0 _ _ HD.out o3, b3⟩
      · have hd0 : ((k : Int) == 0) = false := by simp; omega
        obtain ⟨bB, oB, y, hB, hyk, hcy⟩ := (HRI.out.below HB.out (Nat.le_refl _)).at_ (show k - 1 < l.length by rw [HL.out, ← HM.out]; omega)
        simp only [Option.some.injEq, Addr.mk.injEq, and_true] at hB
        obtain ⟨rfl, rfl⟩ := hB
        obtain ⟨k', hk'⟩ : ∃ k' : Nat, (k' : Int) = (k : Int) - 1 ∧ k' = k - 1 := ⟨k - 1, by omega, rfl⟩
        have HDA : Hid (ddAt l k = (x != y)) := by
          unfold ddAt
          rw [HGX.out, List.getD_eq_getElem?_getD, hyk, show (k == 0) = false by simpa using hk0]
          rfl
        clear hyk hk0
        have hc2 : wr.cell? ⟨bA, oA + k', none⟩ = some (.int .i64 y) := by rw [hk'.2]; exact hcy
        have hk1 := hk'.1
        clear hcy hk'
        have j0 : (0 : Int) ≤ (k' : Int) := by omega
        have j1 : (k' : Int) < (m : Int) := by omega
        have hk2 : IntKind.i64.wrap ((k : Int) - 1) = (k' : Int) := by rw [IntWalk.i64_left, IntWalk.wrap64_in _ (by omega)]; exact hk1.symm
        clear hk1
        by_cases hxy : x = y
        · have hd : (x != y) = false := by simp [hxy]
          have HD : Hid (ddAt l k = false) := HDA.out.trans hd
          clear hxy
          go_wp2_with fail
          go_quiet (fail)
          go_wp2_with fail
          go_roundw
          case measure => simp [intOf]; omega
          case rel =>
            refine ⟨k + 1, q, by omega, by omega, by go_num, ?_, below_drawn HB.out _⟩
            rw [dd_snoc, if_neg (by rw [HD.out]; decide), List.append_nil]
            exact HO.out
        · have hd : (x != y) = true := by simp [hxy]
          have HD : Hid (ddAt l k = true) := HDA.out.trans hd
          clear hxy
          go_wp2_with fail
          go_quiet (fail)
          go_wp2_with (at_builtin; refine append1 (w0 := w2) w2.heap.size (by rfl) (.tmp 30) (.tmp 35) 22 3 (.int .i64 0) 8 (by rfl) Tryd.underlying22 Tryd.infoInt (by rfl) (by decide) _ _ _ _ (by rfl) (by rfl) (by rfl) HO.out (below_drawn HB.out _) hszk haplk ?_; intro v3 w3 o3 b3 g3 _)
          go_roundw
          case measure => simp [intOf]; omega
          case rel => exact ⟨k + 1, q + 1, by omega, by omega, by go_num, FIN.out 0 _ _ HD.out o3, b3⟩
    · have hke : k = m := by omega
      have HKE := hid hke
      clear hke
      go_wp2_with fail
      go_ret
      refine ⟨_, rfl, ?_, below_then HB2.out HB.out HB2.out.size⟩
      rw [HRS.out]
      have := HO.out
      rw [HKE.out, HM.out] at this
      have hq : (dd l xs.length).length = q := by have := this.1; simpa using this
      rw [hq]
      exact own_base this HB2.out.size
end Go.Proofs.YtapebbejdgeijaaDoor
