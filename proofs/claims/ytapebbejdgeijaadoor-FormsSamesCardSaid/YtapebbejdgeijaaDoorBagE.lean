/- bag: set, Get. -/
import Derived.Test.YtapebbejdgeijaaDoorBagD
import Derived.Test.YtapebbejdgeijaaDoorRaw
namespace Go.Proofs.YtapebbejdgeijaaDoor
open Go.RowKit Go.Extern.Stop Go.Stop Go.Extern Go.Deep


set_option maxRecDepth 100000 in
theorem bagSet_ok (w : World) (base b r n : Nat) (sets : List (List Int)) (hbag : BagAt w base b r n sets) (k : Nat) (ws : List Int) (hk : sets[k]? = some ws) (at_ : Int) :
    Calls Tryd.prog 43 #[.pointer (some ⟨b, 0, none⟩), .int .i64 k, .int .i64 at_] w fun e w' => ∃ v, e = .returned (.tuple #[v, .nilIface]) ∧ w.ownsRow base 88 1 v ((n + 63) / 64) (ws.map (Value.int .u64)) ∧ w = w' := by
  obtain ⟨vs, rows, h⟩ := hbag
  have hkl := (List.getElem?_eq_some_iff.1 hk).1
  obtain ⟨g, cap, rfl, hg, _, hc, hm⟩ := own_form h.own (by omega)
  obtain ⟨v, hv, hown⟩ := h.elt k ws hk
  have hcell := h.own.cellAt k (by omega)
  rw [hv] at hcell
  have h1 := (cells3 h.blk).2.1
  have HK := hid hk
  have HO := hid hown
  obtain ⟨A1, c1, rfl, _, _⟩ := own_slice hown
  clear h hk hv hown
  go_enter Tryd.func43, Tryd.ntmps43
  go_wp2
  go_ret2
  exact ⟨_, rfl, HO.out, rfl⟩

set_option maxRecDepth 100000 in
theorem bagSet_err (B : Nat) (S : Nat → Addr) (w : World) (hE : Env B S w) (base b r n : Nat) (sets : List (List Int)) (hbag : BagAt w base b r n sets) (k : Int) (hk : k < 0 ∨ (sets.length : Int) ≤ k) (at_ : Int) :
    Calls Tryd.prog 43 #[.pointer (some ⟨b, 0, none⟩), .int .i64 k, .int .i64 at_] w fun e w' => ∃ v, e = .returned (.tuple #[.slice none 0 0, v]) ∧ Chain S w' v (rootIx 3) [(opBag, at_)] ∧ Below w.heap.size w w' := by
  obtain ⟨vs, rows, h⟩ := hbag
  obtain ⟨A', c', rfl, hc, hm⟩ := own_slice h.own
  have h1 := (cells3 h.blk).2.1
  have HE := hid hE
  clear h hE
  rcases hk with hk | hk
  all_goals
    go_enter Tryd.func43, Tryd.ntmps43
    go_wp2_with (go_at_call 40; refine (bagWrong_calls B S _ HE.out _ 3 (by decide)).mono ?_; rintro e w' ⟨v, rfl, hc, hb2⟩)
    go_ret2
    exact ⟨_, rfl, hc, hb2⟩

theorem bagSet_nil (B : Nat) (S : Nat → Addr) (w : World) (hE : Env B S w) (k at_ : Int) :
    Calls Tryd.prog 43 #[.pointer none, .int .i64 k, .int .i64 at_] w fun e w' => ∃ v, e = .returned (.tuple #[.slice none 0 0, v]) ∧ Chain S w' v (rootIx 11) [(opBag, 0)] ∧ Below w.heap.size w w' := by
  have HE := hid hE
  clear hE
  go_enter Tryd.func43, Tryd.ntmps43
  go_wp2_with (go_at_call 40; refine (bagWrong_calls B S _ HE.out _ 11 (by decide)).mono ?_; rintro e w' ⟨v, rfl, hc, hb2⟩)
  go_ret2
  exact ⟨_, rfl, hc, hb2⟩

/-- Is x a member of the set that these words are? -/
def memb (ws : List Int) (x : Nat) : Bool := (ws.getD (x / 64) 0).toNat.testBit (x % 64)
def members (n : Nat) (ws : List Int) : List Int := ((List.range n).filter (memb ws)).map fun (x : Nat) => (x : Int)
theorem members_snoc (k : Nat) (ws : List Int) : members (k + 1) ws = members k ws ++ (if memb ws k then [(k : Int)] else []) := by
  unfold members
  rw [List.range_succ, List.filter_append, List.map_append]
  congr 1
  by_cases h : memb ws k = true <;> simp [h]

theorem memb_bit {ws : List Int} {j : Nat} {y : Int} (h : ws[j / 64]? = some y) (h0 : 0 ≤ y) (h1 : y < 18446744073709551616) : (bits BinOp.and IntKind.u64 (y / 2 ^ (j % 64)) 1 == 1) = memb ws j := by
  obtain ⟨z, rfl⟩ := Int.eq_ofNat_of_zero_le h0
  have e : ((z : Int) / 2 ^ (j % 64)) = ((z / 2 ^ (j % 64) : Nat) : Int) := by rw [Int.natCast_ediv, Int.natCast_pow]; rfl
  have hlt : z / 2 ^ (j % 64) ≤ z := Nat.div_le_self _ _
  unfold memb
  rw [List.getD_eq_getElem?_getD, h, Option.getD_some, Int.toNat_natCast, Nat.testBit_eq_decide_div_mod_eq, e]
  generalize z / 2 ^ (j % 64) = q at hlt
  rw [u64_and _ _ (by omega) (by omega) (by decide) (by decide), Int.toNat_natCast, show (1 : Int).toNat = 1 from rfl, Nat.and_one_is_mod]
  by_cases hb : q % 2 = 1
  · rw [hb]; rfl
  · have : q % 2 = 0 := by omega
    rw [this]; rfl

set_option maxRecDepth 100000 in
theorem Get_ok (w : World) (base b r n : Nat) (sets : List (List Int)) (hbag : BagAt w base b r n sets) (k : Nat) (ws : List Int) (hk : sets[k]? = some ws) :
    Calls Tryd.prog 11 #[.pointer (some ⟨b, 0, none⟩), .int .i64 k] w fun e w' => ∃ v, e = .returned (.tuple #[v, .nilIface]) ∧ w'.ownsRow w.heap.size 3 1 v (members n ws).length ((members n ws).map (Value.int .i64)) ∧ Below w.heap.size w w' := by
  obtain ⟨hbase, hbl, hn, hc0⟩ := hbag.facts
  have HBAG := hid hbag
  have HK := hid hk
  have HRNG : Hid (∀ y ∈ ws, 0 ≤ y ∧ y < 18446744073709551616) := by
    obtain ⟨vs, rows, h⟩ := hbag
    exact h.rng ws (List.mem_of_getElem? hk)
  clear hbag hk
  go_enter Tryd.func11, Tryd.ntmps11
  go_wp2_with fail
  refine (bagSet_ok w base b r n sets HBAG.out k ws HK.out 0).mono ?_
  rintro e w1 ⟨v, rfl, hown, rfl⟩
  obtain ⟨A1, c1, hv, hc1, hm1, hri⟩ := own_ri hown
  subst hv
  have HO := hid hown
  have HRI := hid hri
  have HM1 := hid hm1
  clear hown hri hm1
  go_wp2_with fail
  go_loopw [23, 8] (fun i v wr => ∃ j : Nat, j ≤ n ∧ i = .int .i64 j ∧ wr.ownsRow w.heap.size 3 1 v (members j ws).length ((members j ws).map (Value.int .i64)) ∧ Below w.heap.size w wr) (fun i _ _ => n - (intOf i).toNat)
  case atStart => exact ⟨0, Nat.zero_le _, rfl, World.ownsRow_nil _ _ _ _, Below.refl _ _⟩
  case round =>
    obtain ⟨j, hj, rfl, hown, hbl2⟩ := hrel
    have HO2 := hid hown
    have HB2 := hid hbl2
    clear hown hbl2
    by_cases hlt : j < n
    · have hjl : j / 64 < ws.length := by have := HM1.out; omega
      obtain ⟨bA, oA, y, hA, hyk, hc⟩ := (HRI.out.below HB2.out (Nat.le_refl _)).at_ hjl
      subst hA
      have hy := HRNG.out y (List.mem_of_getElem? hyk)
      have hy0 := hy.1
      have hy1 := hy.2
      have HYK := hid hyk
      clear hyk hy
      have hsz := HB2.out.size
      have hml : (members j ws).length ≤ 8192 := by
        have := List.length_filter_le (memb ws) (List.range j); simp [members] at this ⊢; omega
      go_wp2_with (at_builtin; refine append1 (w0 := w) w.heap.size (by rfl) (.tmp 36) (.tmp 38) 22 3 (.int .i64 0) 8 (by rfl) Tryd.underlying22 Tryd.infoInt (by rfl) (by decide) _ _ _ _ (by rfl) (by rfl) (by rfl) HO2.out HB2.out hsz (by omega) ?_; intro v1 w1 o1 b1 g1 _)
      · have ht : (bits BinOp.and IntKind.u64 (y / 2 ^ (j % 64)) 1 == 1) = true := by assumption
        rw [memb_bit HYK.out hy0 hy1] at ht
        go_roundw
        case measure => simp [intOf]; omega
        case rel =>
          refine ⟨j + 1, by omega, by go_num, ?_, b1⟩
          rw [members_snoc, ht]
          simpa using o1
      · have ht : (bits BinOp.and IntKind.u64 (y / 2 ^ (j % 64)) 1 == 1) = false := by assumption
        rw [memb_bit HYK.out hy0 hy1] at ht
        go_roundw
        case measure => simp [intOf]; omega
        case rel =>
          refine ⟨j + 1, by omega, by go_num, ?_, HB2.out⟩
          rw [members_snoc, ht]
          simpa using HO2.out
    · have hk' : j = n := by omega
      have HJ := hid hk'
      clear hk'
      go_wp2
      go_ret2
      refine ⟨_, rfl, ?_, HB2.out⟩
      have := HO2.out
      rw [HJ.out] at this
      exact this
end Go.Proofs.YtapebbejdgeijaaDoor
