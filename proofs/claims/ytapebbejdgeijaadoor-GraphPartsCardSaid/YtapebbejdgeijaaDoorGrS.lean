/- edenlaw12.GraphParts: where the lists are no graph. -/
import Derived.Test.YtapebbejdgeijaaDoorGrR
namespace Go.Proofs.YtapebbejdgeijaaDoor
open Go.RowKit Go.Extern.Stop Go.Stop Go.Extern Go.Deep Tar

theorem graphBad_pos {gs : List (List Int)} {i x : Int} (h : graphBad gs = some (i, x)) : (x == 0) = false := by
  unfold graphBad at h
  split at h
  · cases h; rfl
  · split at h
    · cases h; rfl
    · rw [Option.map_eq_some_iff] at h
      obtain ⟨k, _, h⟩ := h
      cases h; rfl

set_option maxRecDepth 100000 in
set_option maxHeartbeats 3200000 in
theorem graphParts_bad (B : Nat) (S : Nat → Addr) (w : World) (hE : Env B S w) (A : Option Addr) (n c : Nat) (gs : List (List Int)) (hr : RII w .i64 A gs) (hn : n = gs.length) (i x : Int) (hb : graphBad gs = some (i, x)) (hl : ∀ xs ∈ gs, xs.length ≤ 17592186043904) (hn24 : n ≤ 5864062014805) :
    Calls Tryd.prog 6 #[.slice A n c] w (RetTrue w) := by
  have hx0 := graphBad_pos hb
  have HX0 := hid hx0
  have HR := hid hr
  have HN := hid hn
  have HBAD := hid hb
  have HL := hid hl
  have HE := hid hE
  clear hr hn hb hl hE hx0
  go_enter Tryd.func6, Tryd.ntmps6
  go_wp2_with fail
  refine (awake12_calls B S w HE.out).mono ?_
  rintro e w1 ⟨rfl, hb1⟩
  have HB1 := hid hb1
  have HR1 := hid (HR.out.below hb1 (Nat.le_refl _))
  clear hb1
  go_wp2_with fail
  refine (lent12_calls w1 A n c gs HR1.out HN.out hn24 HL.out).mono ?_
  rintro e w2 ⟨rfl, hb2, rows, hlr⟩
  have HLR := hid hlr
  have HB2 := hid (below_then HB1.out hb2 HB1.out.size)
  have HE2 := hid (HE.out.below' HB2.out)
  have HM2 := hid (hlr.rii HN.out (by omega) HL.out)
  generalize w1.heap.size = go at *
  clear hlr hb2 HR1
  go_wp2_with fail
  refine (gLive_bad B S w2 HE2.out (some ⟨go, 0, none⟩) n n gs HM2.out HN.out i x HBAD.out HL.out).mono ?_
  rintro e w3 ⟨hb3, v3, rfl, hch3⟩
  obtain ⟨t3, a3, rfl⟩ := hch3.form
  have HCH3 := hid hch3
  have HB3 := hid (below_then HB2.out hb3 HB2.out.size)
  have HLR3 := hid (HLR.out.below hb3)
  have HR3 := hid (HR.out.below HB3.out (Nat.le_refl _))
  clear hch3 hb3 HLR
  go_wp2_with fail
  refine (r12Live_bad w3 A n c gs HR3.out HN.out i x HBAD.out (by rw [bne, HX0.out]; rfl) HL.out).mono ?_
  rintro e w4 ⟨Aa, la, ca, Ab, lb, cb, rfl, herr4, hb4⟩
  have HERR4 := hid herr4
  have HCH4 := hid (Chain.below hb4 HCH3.out)
  have HB4 := hid (below_then HB3.out hb4 HB3.out.size)
  have HLR4 := hid (HLR3.out.below hb4)
  clear herr4 hb4 HCH3 HLR3 HR3
  have HC5 : Hid (ErrCell (w4.alloc (.cells #[.int .i64 x, .slice Aa la ca, .slice Ab lb cb] 39)) w4.heap.size (.int .i64 x) (.slice Aa la ca) (.slice Ab lb cb)) := ⟨heap_alloc_new w4 _⟩
  have hb5 := below_new w4 (.cells #[.int .i64 x, .slice Aa la ca, .slice Ab lb cb] 39)
  have HERR5 := hid (HERR4.out.below hb5)
  have HCH5 := hid (Chain.below hb5 HCH4.out)
  have HLR5 := hid (HLR4.out.below hb5)
  have HB5 := hid (below_then HB4.out hb5 HB4.out.size)
  clear hb5 HERR4 HCH4 HLR4
  go_wp2_with fail
  generalize w4.alloc (.cells #[.int .i64 x, .slice Aa la ca, .slice Ab lb cb] 39) = w5 at *
  generalize w4.heap.size = k7 at *
  have HE5 := hid (HE.out.below' HB5.out)
  have HR5 := hid (HR.out.below HB5.out (Nat.le_refl _))
  refine (gCheck_calls B S w5 HE5.out (some ⟨go, 0, none⟩) n n gs HN.out (HLR5.out.rii HN.out (by omega) HL.out) HL.out).mono ?_
  rintro e w6 ⟨hb6, h⟩
  rw [show graphBad gs = some (i, x) from HBAD.out] at h
  obtain ⟨v6, rfl, hch6⟩ := h
  obtain ⟨t6, a6, rfl⟩ := hch6.form
  have HCH6 := hid hch6
  have HR6 := hid (HR5.out.below hb6 (Nat.le_refl _))
  have HB56 := hid hb6
  clear hch6 hb6
  go_wp2_with fail
  refine (r12Check_calls w6 A n c gs HN.out HR6.out HL.out).mono ?_
  rintro e w7 ⟨Ba, ma, da, Bb, mb, db, rfl, herr7, hb7⟩
  rw [show graphBad gs = some (i, x) from HBAD.out] at herr7 ⊢
  rw [show errN (some (i, x)) = x from rfl] at herr7 ⊢
  have HERR7 := hid herr7
  have HCH7 := hid (Chain.below hb7 HCH6.out)
  have HB57 := hid (below_then HB56.out hb7 HB56.out.size)
  have HE7 := hid (HE5.out.below' HB57.out)
  clear herr7 hb7 HR6 HB56 HCH6
  go_wp2_with fail
  refine (rawIs_err B S w7 HE7.out _ x [(opGraph, i)] HCH7.out HX0.out _ HERR7.out (by simp)).mono ?_
  rintro e w8 ⟨rfl, hb8⟩
  have HB58 := hid (below_then HB57.out hb8 HB57.out.size)
  clear hb8 HB57 HERR7 HCH7
  go_wp2_with fail
  refine (rawInts_same w8 none none 0 0 0 [] rfl (RI.nil _ _ _) (RI.nil _ _ _)).mono ?_
  rintro e w9 ⟨rfl, hb9⟩
  have HB59 := hid (below_then HB58.out hb9 HB58.out.size)
  obtain ⟨k0, k1, k2⟩ := cells3 (HC5.out.below HB59.out).blk
  have HE9 := hid (HE5.out.below' HB59.out)
  clear hb9 HB58
  go_wp2_with fail
  refine (rawIs_err B S w9 HE9.out _ x [(opGraph, i)] (Chain.below HB59.out HCH5.out) HX0.out _ (HERR5.out.below HB59.out) (by simp)).mono ?_
  rintro e w10 ⟨rfl, hb10⟩
  have HB510 := hid (below_then HB59.out hb10 HB59.out.size)
  have HR10 := hid (HR5.out.below HB510.out (Nat.le_refl _))
  have HLR10 := hid (HLR5.out.below HB510.out)
  have HB10 := hid (below_then HB5.out HB510.out HB5.out.size)
  clear hb10 k0 k1 k2 HB59 HB510 HLR5 HR5 HC5 HB5 HCH5 HERR5
  go_wp2_with fail
  refine (kept12_calls w10 A n c go gs rows HR10.out HN.out hn24 HL.out HLR10.out).mono ?_
  rintro e w11 ⟨rfl, hb11⟩
  have HR11 := hid (HR10.out.below hb11 (Nat.le_refl _))
  have HLR11 := hid (HLR10.out.below hb11)
  have HB11 := hid (below_then HB10.out hb11 HB10.out.size)
  clear hb11 HR10 HLR10 HB10
  go_wp2_with fail
  refine (heavy12_calls w11 A n c gs HR11.out HN.out hn24).mono ?_
  rintro e w12 ⟨b, rfl, hb12⟩
  have HR12 := hid (HR11.out.below hb12 (Nat.le_refl _))
  have HLR12 := hid (HLR11.out.below hb12)
  have HB12 := hid (below_then HB11.out hb12 HB11.out.size)
  clear hb12 HR11 HLR11 HB11
  cases b with
  | true =>
    go_wp2_with fail
    go_ret
    exact ⟨rfl, HB12.out⟩
  | false =>
    have HE12 := hid (HE.out.below' HB12.out)
    go_wp2_with fail
    refine (gParts_bad B S w12 HE12.out (some ⟨go, 0, none⟩) n n gs (HLR12.out.rii HN.out (by omega) HL.out) HN.out i x HBAD.out HL.out).mono ?_
    rintro e w13 ⟨hb13, v13, rfl, hch13⟩
    obtain ⟨t13, a13, rfl⟩ := hch13.form
    have HCH13 := hid hch13
    have HB13 := hid (below_then HB12.out hb13 HB12.out.size)
    have HR13 := hid (HR12.out.below hb13 (Nat.le_refl _))
    have HLR13 := hid (HLR12.out.below hb13)
    clear hch13 hb13 HR12 HLR12 HB12
    go_wp2_with fail
    refine (r12Parts_bad w13 A n c gs HR13.out HN.out i x HBAD.out (by rw [bne, HX0.out]; rfl) HL.out).mono ?_
    rintro e w14 ⟨Ca, pa, ea, Cb, pb, eb, rfl, herr14, hb14⟩
    have HERR14 := hid herr14
    have HCH14 := hid (Chain.below hb14 HCH13.out)
    have HB14 := hid (below_then HB13.out hb14 HB13.out.size)
    have HR14 := hid (HR13.out.below hb14 (Nat.le_refl _))
    have HLR14 := hid (HLR13.out.below hb14)
    clear herr14 hb14 HCH13 HR13 HLR13 HB13
    have HC15 : Hid (ErrCell (w14.alloc (.cells #[.int .i64 x, .slice Ca pa ea, .slice Cb pb eb] 39)) w14.heap.size (.int .i64 x) (.slice Ca pa ea) (.slice Cb pb eb)) := ⟨heap_alloc_new w14 _⟩
    have hb15 := below_new w14 (.cells #[.int .i64 x, .slice Ca pa ea, .slice Cb pb eb] 39)
    have HERR15 := hid (HERR14.out.below hb15)
    have HCH15 := hid (Chain.below hb15 HCH14.out)
    have HR15 := hid (HR14.out.below hb15 (Nat.le_refl _))
    have HLR15 := hid (HLR14.out.below hb15)
    have HB15 := hid (below_then HB14.out hb15 HB14.out.size)
    clear hb15 HERR14 HCH14 HR14 HLR14 HB14
    go_wp2_with fail
    generalize w14.alloc (.cells #[.int .i64 x, .slice Ca pa ea, .slice Cb pb eb] 39) = w15 at *
    generalize w14.heap.size = k8 at *
    refine (rawInts_same w15 none none 0 0 0 [] rfl (RI.nil _ _ _) (RI.nil _ _ _)).mono ?_
    rintro e w16 ⟨rfl, hb16⟩
    obtain ⟨k0, k1, k2⟩ := cells3 (HC15.out.below hb16).blk
    have HERR16 := hid (HERR15.out.below hb16)
    have HCH16 := hid (Chain.below hb16 HCH15.out)
    have HR16 := hid (HR15.out.below hb16 (Nat.le_refl _))
    have HLR16 := hid (HLR15.out.below hb16)
    have HB16 := hid (below_then HB15.out hb16 HB15.out.size)
    have HE16 := hid (HE.out.below' HB16.out)
    clear hb16 HERR15 HCH15 HR15 HLR15 HC15 HB15
    go_wp2_with fail
    refine (rawIs_err B S w16 HE16.out _ x [(opGraph, i)] HCH16.out HX0.out _ HERR16.out (by simp)).mono ?_
    rintro e w17 ⟨rfl, hb17⟩
    have HR17 := hid (HR16.out.below hb17 (Nat.le_refl _))
    have HLR17 := hid (HLR16.out.below hb17)
    have HB17 := hid (below_then HB16.out hb17 HB16.out.size)
    clear hb17 k0 k1 k2 HR16 HLR16 HB16 HERR16 HCH16
    go_wp2_with fail
    refine (kept12_calls w17 A n c go gs rows HR17.out HN.out hn24 HL.out HLR17.out).mono ?_
    rintro e w18 ⟨rfl, hb18⟩
    have HB18 := hid (below_then HB17.out hb18 HB17.out.size)
    clear hb18 HR17 HLR17 HB17
    go_wp2_with fail
    go_ret
    exact ⟨rfl, HB18.out⟩

theorem graphParts_calls (B : Nat) (S : Nat → Addr) (w : World) (hE : Env B S w) (A : Option Addr) (n c : Nat) (gs : List (List Int)) (hr : RII w .i64 A gs) (hn : n = gs.length) (hl : ∀ xs ∈ gs, xs.length ≤ 17592186043904) (hn24 : n ≤ 5864062014805) :
    Calls Tryd.prog 6 #[.slice A n c] w (RetTrue w) := by
  cases hb : graphBad gs with
  | none => exact graphParts_ok B S w hE A n c gs hr hn hb hl hn24
  | some e => exact graphParts_bad B S w hE A n c gs hr hn e.1 e.2 hb hl hn24
end Go.Proofs.YtapebbejdgeijaaDoor
