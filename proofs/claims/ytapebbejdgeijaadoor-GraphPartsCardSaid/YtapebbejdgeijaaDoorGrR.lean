/- edenlaw12.GraphParts. -/
import Derived.Test.YtapebbejdgeijaaDoorGrQ
import Derived.Test.YtapebbejdgeijaaDoorGrK
import Derived.Test.YtapebbejdgeijaaDoorSix
namespace Go.Proofs.YtapebbejdgeijaaDoor
open Go.RowKit Go.Extern.Stop Go.Stop Go.Extern Go.Deep Tar

theorem own_row_ri {w : World} {base n c : Nat} {A : Option Addr} {l : List Nat} (h : w.ownsRow base 3 1 (.slice A n c) n (l.map iV)) : RI w .i64 A (ints l) := by
  rw [show l.map iV = (ints l).map (Value.int .i64) by rw [List.map_map]; rfl] at h
  obtain ⟨A', c', hv, _, _, hr⟩ := own_ri h
  simp only [Value.slice.injEq] at hv
  obtain ⟨rfl, _, _⟩ := hv
  exact hr

theorem rawInts_same (w : World) (A A' : Option Addr) (m c c' : Nat) (xs : List Int) (hm : xs.length = m) (hx : RI w .i64 A xs) (hy : RI w .i64 A' xs) :
    Calls Tryd.prog 20 #[.slice A m c, .slice A' m c'] w (RetTrue w) := by
  subst hm
  refine (rawInts_calls w A A' c c' xs xs hx hy).mono ?_
  rintro e w' ⟨rfl, n, rfl⟩
  exact ⟨by rw [decide_eq_true rfl], below_drawn (Below.refl _ _) n⟩

set_option maxRecDepth 100000 in
set_option maxHeartbeats 3200000 in
theorem graphParts_ok (B : Nat) (S : Nat → Addr) (w : World) (hE : Env B S w) (A : Option Addr) (n c : Nat) (gs : List (List Int)) (hr : RII w .i64 A gs) (hn : n = gs.length) (hb : graphBad gs = none) (hl : ∀ xs ∈ gs, xs.length ≤ 17592186043904) (hn24 : n ≤ 5864062014805) :
    Calls Tryd.prog 6 #[.slice A n c] w (RetTrue w) := by
  have HR := hid hr
  have HN := hid hn
  have HBAD := hid hb
  have HL := hid hl
  have HE := hid hE
  clear hr hn hb hl hE
  go_enter Tryd.func6, Tryd.ntmps6
  go_wp2_with fail
  refine (awake12_calls B S w HE.out).mono ?_
  rintro e w1 ⟨rfl, hb1⟩
  have HB1 := hid hb1
  have HR1 := hid (HR.out.below hb1 (Nat.le_refl _))
  clear hb1
  go_wp2_with fail
  refine (lent12_calls w1 A n c gs HR1.out HN.out hn24 HL.out).mono ?_
  rintro e w2 ⟨rfl, hb2, rows, hlr⟩
  have HLR := hid hlr
  have HB2 := hid (below_then HB1.out hb2 HB1.out.size)
  have HE2 := hid (HE.out.below' HB2.out)
  have HM2 := hid (hlr.rii HN.out (by omega) HL.out)
  generalize w1.heap.size = go at *
  clear hlr hb2 HR1
  go_wp2_with fail
  refine (gLive_ok B S w2 HE2.out (some ⟨go, 0, none⟩) n n gs HM2.out HN.out HBAD.out HL.out).mono ?_
  rintro e w3 ⟨v3, rfl, ho3, hb3⟩
  obtain ⟨A3, c3, hv3, hc3, _⟩ := own_slice ho3
  subst hv3
  have HO3 := hid (own_row_ri ho3)
  have HB3 := hid (below_then HB2.out hb3 HB2.out.size)
  have HLR3 := hid (HLR.out.below hb3)
  have HR3 := hid (HR.out.below HB3.out (Nat.le_refl _))
  clear ho3 hb3 HLR
  go_wp2_with fail
  refine (r12Live_ok w3 A n c gs HR3.out HN.out HBAD.out HL.out).mono ?_
  rintro e w4 ⟨A4, c4, rfl, ho4, hb4⟩
  have HO4 := hid (own_row_ri ho4)
  have HO3' := hid (HO3.out.below hb4 (Nat.le_refl _))
  have HB4 := hid (below_then HB3.out hb4 HB3.out.size)
  have HLR4 := hid (HLR3.out.below hb4)
  clear ho4 hb4 HO3 HLR3 HR3
  simp only [zeroErr]
  generalize liveL (natG gs) n = LL at *
  have HC5 := hid (ErrCell.new w4)
  have hb5 := below_new w4 (.cells #[.int .i64 0, .slice none 0 0, .slice none 0 0] 39)
  have HO3 := hid (HO3'.out.below hb5 (Nat.le_refl _))
  have HO5 := hid (HO4.out.below hb5 (Nat.le_refl _))
  have HLR5 := hid (HLR4.out.below hb5)
  have HB5 := hid (below_then HB4.out hb5 HB4.out.size)
  clear hb5 HO3' HO4 HLR4
  go_wp2_with fail
  generalize w4.alloc (.cells #[.int .i64 0, .slice none 0 0, .slice none 0 0] 39) = w5 at *
  generalize w4.heap.size = k7 at *
  have HE5 := hid (HE.out.below' HB5.out)
  have HR5 := hid (HR.out.below HB5.out (Nat.le_refl _))
  refine (gCheck_calls B S w5 HE5.out (some ⟨go, 0, none⟩) n n gs HN.out (HLR5.out.rii HN.out (by omega) HL.out) HL.out).mono ?_
  rintro e w6 ⟨hb6, h⟩
  rw [show graphBad gs = none from HBAD.out] at h
  obtain rfl := h
  have HR6 := hid (HR5.out.below hb6 (Nat.le_refl _))
  have HB56 := hid hb6
  clear hb6
  go_wp2_with fail
  refine (r12Check_calls w6 A n c gs HN.out HR6.out HL.out).mono ?_
  rintro e w7 ⟨Aa, la, ca, Ab, lb, cb, rfl, -, hb7⟩
  rw [show graphBad gs = none from HBAD.out, show errN none = 0 from rfl]
  have HB57 := hid (below_then HB56.out hb7 HB56.out.size)
  clear hb7 HR6 HB56
  go_wp2_with fail
  refine (rawIs_nil (.slice Aa la ca) (.slice Ab lb cb) w7).mono ?_
  rintro e w8 ⟨rfl, hb8⟩
  have HB58 := hid (below_then HB57.out hb8 HB57.out.size)
  have HRI := hid (rawInts_same w8 A3 A4 LL.length c3 c4 (ints LL) (by rw [List.length_map]) (HO3.out.below HB58.out (Nat.le_refl _)) (HO5.out.below HB58.out (Nat.le_refl _)))
  clear hb8 HB57
  go_wp2_with fail
  refine HRI.out.mono ?_
  rintro e w9 ⟨rfl, hb9⟩
  have HB59 := hid (below_then HB58.out hb9 HB58.out.size)
  obtain ⟨k0, k1, k2⟩ := cells3 (HC5.out.below HB59.out).blk
  clear hb9 HB58 HRI
  go_wp2_with fail
  refine (rawIs_nil (.slice none 0 0) (.slice none 0 0) w9).mono ?_
  rintro e w10 ⟨rfl, hb10⟩
  have HB510 := hid (below_then HB59.out hb10 HB59.out.size)
  have HR10 := hid (HR5.out.below HB510.out (Nat.le_refl _))
  have HLR10 := hid (HLR5.out.below HB510.out)
  have HB10 := hid (below_then HB5.out HB510.out HB5.out.size)
  clear hb10 k0 k1 k2 HB59 HB510 HLR5 HR5 HC5 HO3 HO5 HB5
  go_wp2_with fail
  refine (kept12_calls w10 A n c go gs rows HR10.out HN.out hn24 HL.out HLR10.out).mono ?_
  rintro e w11 ⟨rfl, hb11⟩
  have HR11 := hid (HR10.out.below hb11 (Nat.le_refl _))
  have HLR11 := hid (HLR10.out.below hb11)
  have HB11 := hid (below_then HB10.out hb11 HB10.out.size)
  clear hb11 HR10 HLR10 HB10
  go_wp2_with fail
  refine (heavy12_calls w11 A n c gs HR11.out HN.out hn24).mono ?_
  rintro e w12 ⟨b, rfl, hb12⟩
  have HR12 := hid (HR11.out.below hb12 (Nat.le_refl _))
  have HLR12 := hid (HLR11.out.below hb12)
  have HB12 := hid (below_then HB11.out hb12 HB11.out.size)
  clear hb12 HR11 HLR11 HB11
  cases b with
  | true =>
    go_wp2_with fail
    go_ret
    exact ⟨rfl, HB12.out⟩
  | false =>
    have HE12 := hid (HE.out.below' HB12.out)
    go_wp2_with fail
    refine (gParts_ok B S w12 HE12.out (some ⟨go, 0, none⟩) n n gs (HLR12.out.rii HN.out (by omega) HL.out) HN.out HBAD.out HL.out).mono ?_
    rintro e w13 ⟨gx, xs, rfl, hrx, hip, hb13⟩
    have hxl : xs.length = n := hip.1
    have HX13 := hid (ri_of_row hrx hxl (by omega))
    have HIP := hid hip
    have HB13 := hid (below_then HB12.out hb13 HB12.out.size)
    have HR13 := hid (HR12.out.below hb13 (Nat.le_refl _))
    have HLR13 := hid (HLR12.out.below hb13)
    have HXL := hid hxl
    clear hrx hip hb13 HR12 HLR12 HB12 hxl
    go_wp2_with fail
    refine (r12Parts_ok w13 A n c gs HR13.out HN.out HBAD.out HL.out).mono ?_
    rintro e w14 ⟨gy, ys, rfl, hry, hiq, hb14⟩
    obtain rfl := hiq.uniq HIP.out
    have HY14 := hid (ri_of_row hry HXL.out (by omega))
    have HX14 := hid (HX13.out.below hb14 (Nat.le_refl _))
    have HB14 := hid (below_then HB13.out hb14 HB13.out.size)
    have HR14 := hid (HR13.out.below hb14 (Nat.le_refl _))
    have HLR14 := hid (HLR13.out.below hb14)
    clear hry hiq hb14 HX13 HR13 HLR13 HB13
    simp only [zeroErr]
    have HC15 := hid (ErrCell.new w14)
    have hb15 := below_new w14 (.cells #[.int .i64 0, .slice none 0 0, .slice none 0 0] 39)
    have HX15 := hid (HX14.out.below hb15 (Nat.le_refl _))
    have HY15 := hid (HY14.out.below hb15 (Nat.le_refl _))
    have HR15 := hid (HR14.out.below hb15 (Nat.le_refl _))
    have HLR15 := hid (HLR14.out.below hb15)
    have HB15 := hid (below_then HB14.out hb15 HB14.out.size)
    clear hb15 HX14 HY14 HR14 HLR14 HB14
    go_wp2_with fail
    generalize w14.alloc (.cells #[.int .i64 0, .slice none 0 0, .slice none 0 0] 39) = w15 at *
    generalize w14.heap.size = k8 at *
    refine (rawInts_same w15 (some ⟨gx, 0, none⟩) (some ⟨gy, 0, none⟩) n n n (ints ys) (by rw [List.length_map]; exact HXL.out) HX15.out HY15.out).mono ?_
    rintro e w16 ⟨rfl, hb16⟩
    obtain ⟨k0, k1, k2⟩ := cells3 (HC15.out.below hb16).blk
    have HR16 := hid (HR15.out.below hb16 (Nat.le_refl _))
    have HLR16 := hid (HLR15.out.below hb16)
    have HB16 := hid (below_then HB15.out hb16 HB15.out.size)
    clear hb16 HX15 HY15 HR15 HLR15 HC15 HB15
    go_wp2_with fail
    refine (rawIs_nil (.slice none 0 0) (.slice none 0 0) w16).mono ?_
    rintro e w17 ⟨rfl, hb17⟩
    have HR17 := hid (HR16.out.below hb17 (Nat.le_refl _))
    have HLR17 := hid (HLR16.out.below hb17)
    have HB17 := hid (below_then HB16.out hb17 HB16.out.size)
    clear hb17 k0 k1 k2 HR16 HLR16 HB16
    go_wp2_with fail
    refine (kept12_calls w17 A n c go gs rows HR17.out HN.out hn24 HL.out HLR17.out).mono ?_
    rintro e w18 ⟨rfl, hb18⟩
    have HB18 := hid (below_then HB17.out hb18 HB17.out.size)
    clear hb18 HR17 HLR17 HB17
    go_wp2_with fail
    go_ret
    exact ⟨rfl, HB18.out⟩
end Go.Proofs.YtapebbejdgeijaaDoor
