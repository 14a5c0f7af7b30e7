/- nat.Parse of 110. -/
import Derived.Test.YtapebbejdgeijaaDoorNatB
import Derived.Test.YtapebbejdgeijaaDoorRule
import Derived.Deep.RegionWith
namespace Go.Proofs.YtapebbejdgeijaaDoor
open Go.RowKit Go.Extern.Stop Go.Stop Go.Extern Go.Deep

theorem limb_new (w : World) (x : Int) (h0 : 0 ≤ x) (h1 : x < 4294967296) : Limb (w.alloc (.cells #[.int .u32 x] 194)) (some ⟨w.heap.size, 0, none⟩) 1 x :=
  ⟨h0, h1, .inr ⟨rfl, w.heap.size, 0, rfl, cell_one w _ _⟩⟩
theorem limb_fst (w : World) (x y : Int) (h0 : 0 ≤ x) (h1 : x < 4294967296) : Limb ((w.alloc (.cells #[.int .u32 x] 194)).alloc (.cells #[.int .u32 y] 194)) (some ⟨w.heap.size, 0, none⟩) 1 x := (limb_new w x h0 h1).below (below_new _ _)
theorem limb_snd (w : World) (x y : Int) (h0 : 0 ≤ x) (h1 : x < 4294967296) : Limb ((w.alloc (.cells #[.int .u32 y] 194)).alloc (.cells #[.int .u32 x] 194)) (some ⟨w.heap.size + 1, 0, none⟩) 1 x := by
  have h := limb_new (w.alloc (.cells #[.int .u32 y] 194)) x h0 h1
  rw [World.size_alloc] at h
  exact h
theorem Limb.drew {w : World} {A : Option Addr} {m : Nat} {x : Int} (h : Limb w A m x) : Limb w.drew A m x := h.below (below_drawn (Below.refl _ _) 1)
theorem below_from {a b c : World} (h : Below a.heap.size a b) (k : Below b.heap.size b c) : Below a.heap.size a c := below_then h k h.size
theorem below_new1 (w : World) (o : Obj) : Below w.heap.size w (w.alloc o).drew := below_drawn (below_new w o) 1
theorem below_new2 (w : World) (o o' : Obj) : Below w.heap.size w ((w.alloc o).alloc o').drew := below_drawn (below_from (below_new w o) (below_new _ o')) 1
def d110 (j : Nat) : Int := if j = 0 then 0 else if j = 1 then 1 else if j = 2 then 11 else 110

set_option maxRecDepth 100000 in
set_option maxHeartbeats 8000000 in
theorem parse110_calls (w : World) : Calls Tryd.prog 94 #[.string ⟨#[49, 49, 48]⟩] w fun e w' => ∃ A c, e = .returned (.tuple #[.slice A 1 c, .nilIface]) ∧ Limb w' A 1 110 ∧ Below w.heap.size w w' := by
  go_enter Tryd.func94, Tryd.ntmps94
  go_wp2_with fail
  go_loopw [17, 4] (fun i v wr => ∃ (j : Nat) (A : Option Addr) (m c : Nat), j ≤ 3 ∧ i = .int .i64 j ∧ v = .slice A m c ∧ Limb wr A m (d110 j) ∧ (j = 3 → m = 1) ∧ Below w.heap.size w wr) (fun i _ _ => 3 - (intOf i).toNat)
  case atStart => exact ⟨0, none, 0, 0, by decide, rfl, rfl, ⟨by decide, by decide, .inl ⟨rfl, rfl⟩⟩, fun h => (by cases h), Below.refl _ _⟩
  case round =>
    obtain ⟨j, A, m, c, hj, rfl, rfl, hl, hm, hb⟩ := hrel
    have HL := hid hl
    have HB := hid hb
    have HM := hid hm
    clear hl hb hm
    rcases (show j = 0 ∨ j = 1 ∨ j = 2 ∨ j = 3 by omega) with rfl | rfl | rfl | rfl
    · have z0 : IntKind.u32.wrap (IntKind.u8.wrap ((((⟨#[49, 49, 48]⟩ : ByteArray)[0]'(by decide)).toNat : Int) - 48)) = 1 := by rfl
      go_wp2_with fail
      have HX : Hid (Limb wr A m 0) := HL.out
      go_region_with (first
        | (go_at_call 120; refine (mul_calls _ _ _ _ _ _ 0 10 (HX.out.below (by first | exact below_new1 _ _ | exact below_new2 _ _ _)) (by first | exact (limb_new wr 10 (by decide) (by decide)).drew | exact (limb_fst wr 10 1 (by decide) (by decide)).drew | exact (limb_snd wr 10 1 (by decide) (by decide)).drew) (by decide)).mono ?_; rintro e w2 ⟨A2, c2, rfl, hc2, hr2, hb2⟩; have HL2 := hid (Limb.of (by decide) (by decide) hr2); have HB2 := hid hb2; have HBm : Hid (Below wr.heap.size wr w2) := below_from (by first | exact below_new1 _ _ | exact below_new2 _ _ _) hb2; clear hc2 hr2 hb2)
        | (go_at_call 119; refine (add_calls _ _ _ _ _ _ _ (0 * 10) 1 (by first | exact HL2.out | exact HL2.out.below (below_new _ _)) (by first | exact limb_new w2 1 (by decide) (by decide) | exact (limb_snd wr 1 10 (by decide) (by decide)).drew.below HB2.out | exact (limb_fst wr 1 10 (by decide) (by decide)).drew.below HB2.out) (by decide)).mono ?_; rintro e w3 ⟨A3, c3, rfl, hc3, hr3, hb3⟩; have HL3 := hid (Limb.of (by decide) (by decide) hr3); have HBa : Hid (Below wr.heap.size wr w3) := below_from (by first | exact HBm.out | exact below_from HBm.out (below_new _ _)) hb3; clear hc3 hr3 hb3))
      all_goals
        go_wp2_with fail
        go_roundw
        case measure => simp [intOf]
        case rel => exact ⟨1, A3, _, c3, by decide, by go_num, rfl, HL3.out, fun h => (by cases h), below_then HB.out HBa.out HB.out.size⟩
    · have z0 : IntKind.u32.wrap (IntKind.u8.wrap ((((⟨#[49, 49, 48]⟩ : ByteArray)[1]'(by decide)).toNat : Int) - 48)) = 1 := by rfl
      go_wp2_with fail
      have HX : Hid (Limb wr A m 1) := HL.out
      go_region_with (first
        | (go_at_call 120; refine (mul_calls _ _ _ _ _ _ 1 10 (HX.out.below (by first | exact below_new1 _ _ | exact below_new2 _ _ _)) (by first | exact (limb_new wr 10 (by decide) (by decide)).drew | exact (limb_fst wr 10 1 (by decide) (by decide)).drew | exact (limb_snd wr 10 1 (by decide) (by decide)).drew) (by decide)).mono ?_; rintro e w2 ⟨A2, c2, rfl, hc2, hr2, hb2⟩; have HL2 := hid (Limb.of (by decide) (by decide) hr2); have HB2 := hid hb2; have HBm : Hid (Below wr.heap.size wr w2) := below_from (by first | exact below_new1 _ _ | exact below_new2 _ _ _) hb2; clear hc2 hr2 hb2)
        | (go_at_call 119; refine (add_calls _ _ _ _ _ _ _ (1 * 10) 1 (by first | exact HL2.out | exact HL2.out.below (below_new _ _)) (by first | exact limb_new w2 1 (by decide) (by decide) | exact (limb_snd wr 1 10 (by decide) (by decide)).drew.below HB2.out | exact (limb_fst wr 1 10 (by decide) (by decide)).drew.below HB2.out) (by decide)).mono ?_; rintro e w3 ⟨A3, c3, rfl, hc3, hr3, hb3⟩; have HL3 := hid (Limb.of (by decide) (by decide) hr3); have HBa : Hid (Below wr.heap.size wr w3) := below_from (by first | exact HBm.out | exact below_from HBm.out (below_new _ _)) hb3; clear hc3 hr3 hb3))
      all_goals
        go_wp2_with fail
        go_roundw
        case measure => simp [intOf]
        case rel => exact ⟨2, A3, _, c3, by decide, by go_num, rfl, HL3.out, fun h => (by cases h), below_then HB.out HBa.out HB.out.size⟩
    · have z0 : IntKind.u32.wrap (IntKind.u8.wrap ((((⟨#[49, 49, 48]⟩ : ByteArray)[2]'(by decide)).toNat : Int) - 48)) = 0 := by rfl
      go_wp2_with fail
      have HX : Hid (Limb wr A m 11) := HL.out
      go_region_with (first
        | (go_at_call 120; refine (mul_calls _ _ _ _ _ _ 11 10 (HX.out.below (by first | exact below_new1 _ _ | exact below_new2 _ _ _)) (by first | exact (limb_new wr 10 (by decide) (by decide)).drew | exact (limb_fst wr 10 0 (by decide) (by decide)).drew | exact (limb_snd wr 10 0 (by decide) (by decide)).drew) (by decide)).mono ?_; rintro e w2 ⟨A2, c2, rfl, hc2, hr2, hb2⟩; have HL2 := hid (Limb.of (by decide) (by decide) hr2); have HB2 := hid hb2; have HBm : Hid (Below wr.heap.size wr w2) := below_from (by first | exact below_new1 _ _ | exact below_new2 _ _ _) hb2; clear hc2 hr2 hb2)
        | (go_at_call 119; refine (add_calls _ _ _ _ _ _ _ (11 * 10) 0 (by first | exact HL2.out | exact HL2.out.below (below_new _ _)) (by first | exact limb_new w2 0 (by decide) (by decide) | exact (limb_snd wr 0 10 (by decide) (by decide)).drew.below HB2.out | exact (limb_fst wr 0 10 (by decide) (by decide)).drew.below HB2.out) (by decide)).mono ?_; rintro e w3 ⟨A3, c3, rfl, hc3, hr3, hb3⟩; have HL3 := hid (Limb.of (by decide) (by decide) hr3); have HBa : Hid (Below wr.heap.size wr w3) := below_from (by first | exact HBm.out | exact below_from HBm.out (below_new _ _)) hb3; clear hc3 hr3 hb3))
      all_goals
        go_wp2_with fail
        go_roundw
        case measure => simp [intOf]
        case rel => exact ⟨3, A3, _, c3, by decide, by go_num, rfl, HL3.out, fun _ => rfl, below_then HB.out HBa.out HB.out.size⟩
    · have hm1 := HM.out rfl
      subst hm1
      have HX : Hid (Limb wr A 1 110) := HL.out
      have z0 : (((⟨#[49, 49, 48]⟩ : ByteArray)[0]'(by decide)).toNat : Int) = 49 := by rfl
      go_wp2_with fail
      go_ret2
      exact ⟨A, ⟨c, rfl⟩, HX.out, HB.out⟩
end Go.Proofs.YtapebbejdgeijaaDoor
