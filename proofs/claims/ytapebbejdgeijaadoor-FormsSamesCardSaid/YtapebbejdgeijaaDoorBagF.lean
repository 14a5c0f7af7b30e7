/- bag: calls in the forms that the laws meet; awake. -/
import Derived.Test.YtapebbejdgeijaaDoorBagP
namespace Go.Proofs.YtapebbejdgeijaaDoor
open Go.RowKit Go.Extern.Stop Go.Stop Go.Extern Go.Deep

theorem bagNew_at (w : World) (i : Int) (n : Nat) (hi : i = n) (hn : n ≤ 8192) :
    Calls Tryd.prog 9 #[.int .i64 i] w fun e w' => e = .returned (.tuple #[.pointer (some ⟨w.heap.size + 1, 0, none⟩), .nilIface]) ∧ BagAt w' w.heap.size (w.heap.size + 1) w.heap.size n [] ∧ Below w.heap.size w w' := by
  subst hi
  exact bagNew_ok w n hn

theorem Put_new (B : Nat) (S : Nat → Addr) (w : World) (hE : Env B S w) (base b r n : Nat) (sets : List (List Int)) (A : Option Addr) (m c : Nat) (xs : List Int) (hm : m = xs.length)
    (hbag : BagAt w base b r n sets) (hr : RI w .i64 A xs) (hx : ∀ x ∈ xs, 0 ≤ x ∧ x < (n : Int)) (hf : bagFind sets (keyB (bitsOf n xs)) = none) (hl : sets.length < 4096) :
    Calls Tryd.prog 10 #[.pointer (some ⟨b, 0, none⟩), .slice A m c] w fun e w' => e = .returned (.tuple #[.int .i64 (sets.length : Int), .bool true, .nilIface]) ∧ BagAt w' base b r n (sets ++ [bitsOf n xs]) ∧ Below base w w' ∧ BagFrame w w' r := by
  subst hm
  refine (Put_calls B S w hE base b r n sets A c xs hbag hr).mono ?_
  intro e w' h
  unfold PutsPost PutPost at h
  rw [firstBad_ok hx] at h
  simp only [hf, show ¬ sets.length = 4096 by omega, if_false] at h
  exact ⟨h.2.2.1, h.2.2.2, h.1, h.2.1⟩

theorem Put_old (B : Nat) (S : Nat → Addr) (w : World) (hE : Env B S w) (base b r n : Nat) (sets : List (List Int)) (A : Option Addr) (m c : Nat) (xs : List Int) (hm : m = xs.length) (id : Int)
    (hbag : BagAt w base b r n sets) (hr : RI w .i64 A xs) (hx : ∀ x ∈ xs, 0 ≤ x ∧ x < (n : Int)) (hf : bagFind sets (keyB (bitsOf n xs)) = some id) :
    Calls Tryd.prog 10 #[.pointer (some ⟨b, 0, none⟩), .slice A m c] w fun e w' => e = .returned (.tuple #[.int .i64 id, .bool false, .nilIface]) ∧ BagAt w' base b r n sets ∧ Below base w w' ∧ BagFrame w w' r := by
  subst hm
  refine (Put_calls B S w hE base b r n sets A c xs hbag hr).mono ?_
  intro e w' h
  unfold PutsPost PutPost at h
  rw [firstBad_ok hx] at h
  simp only [hf] at h
  exact ⟨h.2.2.1, h.2.2.2, h.1, h.2.1⟩

theorem Put_full (B : Nat) (S : Nat → Addr) (w : World) (hE : Env B S w) (base b r n : Nat) (sets : List (List Int)) (A : Option Addr) (m c : Nat) (xs : List Int) (hm : m = xs.length)
    (hbag : BagAt w base b r n sets) (hr : RI w .i64 A xs) (hx : ∀ x ∈ xs, 0 ≤ x ∧ x < (n : Int)) (hf : bagFind sets (keyB (bitsOf n xs)) = none) (hl : sets.length = 4096) :
    Calls Tryd.prog 10 #[.pointer (some ⟨b, 0, none⟩), .slice A m c] w fun e w' => ∃ v, e = .returned (.tuple #[.int .i64 0, .bool false, v]) ∧ Chain S w' v (rootIx 4) [(opBag, 0)] ∧ BagAt w' base b r n sets ∧ Below base w w' ∧ BagFrame w w' r := by
  subst hm
  refine (Put_calls B S w hE base b r n sets A c xs hbag hr).mono ?_
  intro e w' h
  unfold PutsPost PutPost at h
  rw [firstBad_ok hx] at h
  simp only [hf, hl, if_true] at h
  obtain ⟨h1, h2, v, h3, h4, h5⟩ := h
  exact ⟨v, h3, h4, h5, h1, h2⟩

theorem Get_at (w : World) (base b r n : Nat) (sets : List (List Int)) (hbag : BagAt w base b r n sets) (i : Int) (k : Nat) (hi : i = k) (ws : List Int) (hk : sets[k]? = some ws) :
    Calls Tryd.prog 11 #[.pointer (some ⟨b, 0, none⟩), .int .i64 i] w fun e w' => ∃ v, e = .returned (.tuple #[v, .nilIface]) ∧ w'.ownsRow w.heap.size 3 1 v (members n ws).length ((members n ws).map (Value.int .i64)) ∧ Below w.heap.size w w' := by
  subst hi
  exact Get_ok w base b r n sets hbag k ws hk

set_option maxRecDepth 100000 in
theorem awake09_calls (B : Nat) (S : Nat → Addr) (w : World) (hE : Env B S w) :
    Calls Tryd.prog 8 #[] w (RetTrue w) := by
  have HE := hid hE
  clear hE
  go_enter Tryd.func8, Tryd.ntmps8
  go_wp2_with fail
  refine (bagNew_at w 5 5 rfl (by decide)).mono ?_
  rintro e w1 ⟨rfl, hbag1, hb1⟩
  have W1 := hid hb1
  have HBAG1 := hid hbag1
  clear hb1 hbag1
  go_wp2_with fail
  have L1 : Hid (Below w1.heap.size w1 (w1.alloc (.cells #[.int .i64 3, .int .i64 1] 3))) := below_new _ _
  have V1 := hid (below_then W1.out L1.out W1.out.size)
  refine (Put_new B S _ (HE.out.below' V1.out) w.heap.size (w.heap.size + 1) w.heap.size 5 [] (some ⟨w1.heap.size, 0, none⟩) 2 2 [3, 1] rfl (HBAG1.out.below L1.out) (ri_block (e := 3) (f := (0, 0)) (heap_alloc_new w1 _) (by decide)) (by decide) rfl (by decide)).mono ?_
  rintro e w2 ⟨rfl, hbag2, hb2, _⟩
  have W2 := hid (V1.out.trans hb2)
  have HBAG2 := hid hbag2
  clear hbag2 hb2
  go_wp2_with fail
  have L2 : Hid (Below w2.heap.size w2 (w2.alloc (.cells #[.int .i64 1, .int .i64 3, .int .i64 3] 3))) := below_new _ _
  have V2 := hid (below_then W2.out L2.out W2.out.size)
  refine (Put_old B S _ (HE.out.below' V2.out) w.heap.size (w.heap.size + 1) w.heap.size 5 _ (some ⟨w2.heap.size, 0, none⟩) 3 3 [1, 3, 3] rfl 0 (HBAG2.out.below L2.out) (ri_block (e := 3) (f := (0, 0)) (heap_alloc_new w2 _) (by decide)) (by decide) (by kernel_rfl)).mono ?_
  rintro e w3 ⟨rfl, hbag3, hb3, _⟩
  have W3 := hid (V2.out.trans hb3)
  have HBAG3 := hid hbag3
  clear hbag3 hb3
  go_wp2_with fail
  refine (Get_at w3 w.heap.size (w.heap.size + 1) w.heap.size 5 _ HBAG3.out 0 0 rfl (bitsOf 5 [3, 1]) (by rfl)).mono ?_
  rintro e w4 ⟨v, rfl, hown, hb4⟩
  have hmem : members 5 (bitsOf 5 [3, 1]) = [1, 3] := by kernel_rfl
  rw [hmem] at hown
  obtain ⟨A4, c4, hv, hc4, hm4, hri4⟩ := own_ri hown
  subst hv
  have HR4 := hid hri4
  have W4 := hid (below_then W3.out hb4 W3.out.size)
  clear hown hri4 hm4 hb4 hmem
  go_wp2_with fail
  refine (rawInts_calls _ A4 (some ⟨w4.heap.size, 0, none⟩) c4 2 [1, 3] [1, 3] (HR4.out.below (below_new _ _) (Nat.le_refl _)) (ri_block (e := 3) (f := (0, 0)) (heap_alloc_new w4 _) (by decide))).mono ?_
  rintro e w5 ⟨rfl, n5, rfl⟩
  go_wp2_with fail
  go_ret
  exact ⟨rfl, below_then W4.out (below_drawn (below_new _ _) _) W4.out.size⟩
end Go.Proofs.YtapebbejdgeijaaDoor
