/- plays, kind 1. -/
import Derived.Test.YtapebbejdgeijaaDoorPlayD
import Derived.Test.YtapebbejdgeijaaDoorBagH
namespace Go.Proofs.YtapebbejdgeijaaDoor
open Go.RowKit Go.Extern.Stop Go.Stop Go.Extern Go.Deep

set_option maxRecDepth 100000 in
theorem plays1_calls {X : Nat → Prop} (B : Nat) (S : Nat → Addr) (w0 w : World) (hE : Env B S w) (base : Nat) (_hB : B ≤ base) (hw0 : w0.heap.size ≤ base) (hb0 : Below base w0 w) (p q : Value) (r r' : Nat) (st : BSt) (hp : BagIn w base p r st) (hq : RefIn w base q r' X st) (_hrr : r ≠ r') (kind I J : Int) (ey : (wrap64 (kind.tmod 5 + 5)).tmod 5 = ((1 : Nat) : Int)) (A : Option Addr) (m c : Nat) (xs : List Int) (hm : m = xs.length) (hr : RI w0 .i64 A xs) (hA : A = none → c = 0) (hl : xs.length ≤ 200) (hbase : base ≤ w.heap.size) :
    Calls Tryd.prog 18 #[p, q, .agg #[.int .i64 kind, .int .i64 I, .int .i64 J, .slice A m c]] w (PlaysPost base p q r r' w) := by
  have HE := hid hE
  have HM := hid hm
  have HR := hid hr
  have HNIL := hid hA
  have HL := hid hl
  have HW0 := hid (below_new w (.cells #[.int .i64 kind, .int .i64 I, .int .i64 J, .slice A m c] 48))
  have HK0 : Hid (OpCell (w.alloc (.cells #[.int .i64 kind, .int .i64 I, .int .i64 J, .slice A m c] 48)) w.heap.size kind I J (.slice A m c)) := heap_alloc_new w _
  have HP0 := hid (hp.below HW0.out)
  have HQ0 := hid (hq.below HW0.out)
  have HB0 := hid (hb0.trans (HW0.out.mono hbase))
  clear hE hp hq hm hr hA hl hb0
  go_enter Tryd.func18, Tryd.ntmps18
  go_wp2_with fail
  refine (lent_calls _ A m c xs HM.out (HR.out.below HB0.out hw0) (by have := HL.out; omega)).mono ?_
  generalize w.alloc (.cells #[.int .i64 kind, .int .i64 I, .int .i64 J, .slice A m c] 48) = wa at *
  rintro e w1 ⟨rfl, hlc, hb1⟩
  have HB1 := hid hb1
  have HP1 := hid (HP0.out.below hb1)
  have HQ1 := hid ((HQ0.out.fresh (X' := fun k => k ≠ wa.heap.size) (fun k h => Nat.ne_of_lt h)).below hb1)
  have hgw1 : wa.heap.size < w1.heap.size := (Array.getElem?_eq_some_iff.1 hlc).1
  have HK1 := hid (HK0.out.below hb1)
  have HE1 := hid ((HE.out.below' HW0.out).below' hb1)
  have hba : base ≤ wa.heap.size := Nat.le_trans hbase HW0.out.size
  have HX1 := hid (HB0.out.trans (hb1.mono hba))
  have HBT1 := hid ((HW0.out.mono hbase).trans (hb1.mono hba))
  have HLC1 : Hid (LentCell w1 wa.heap.size xs) := hlc
  have hg1 : base ≤ wa.heap.size := hba
  clear hlc hb1 HP0 HQ0 HK0 HB0 HB1 hba
  generalize wa.heap.size = g at *
  have hlen : xs.length ≤ 4096 := by have := HL.out; omega
  obtain ⟨k0, k1, k2, k3⟩ := HK1.out.cells
  have hbase0 : base ≤ w.heap.size := hbase
  have hkb : base ≤ w.heap.size := hbase
  have hb1s : base ≤ w1.heap.size := by omega
  obtain ⟨kk, hkk⟩ : ∃ kk, kk = w.heap.size := ⟨_, rfl⟩
  rw [← hkk] at HK1 k0 k1 k2 k3 ⊢
  clear hkk
  go_wp2_with fail
  refine (bagFind_any B S w1 HE1.out base p r st HP1.out (some ⟨g, 0, none⟩) m (m + 2) xs HM.out (lent_ri HLC1.out hlen)).mono ?_
  rintro e w2 ⟨v2, rfl, hor, hb2⟩
  have HOR := hid hor
  have HP2 := hid (HP1.out.below hb2)
  have HQ2 := hid (HQ1.out.below hb2)
  have HK2 := hid (HK1.out.below hb2)
  have HLC2 := hid (HLC1.out.below hb2)
  have HX2 := hid (HX1.out.trans (hb2.mono hb1s))
  have hgw2 : g < w2.heap.size := Nat.lt_of_lt_of_le hgw1 hb2.size
  have HBT2 := hid (HBT1.out.trans (hb2.mono hb1s))
  have HE2 := hid (HE1.out.below' hb2)
  have hb2s : base ≤ w2.heap.size := Nat.le_trans hb1s hb2.size
  obtain ⟨k0', k1', k2', k3'⟩ := HK2.out.cells
  have HSPEC : Hid (∀ (W : World), RefIn W base q r' (fun k => k ≠ g) st → RI W .i64 A xs → Calls Tryd.prog 50 #[q, .slice A m c] W (fun e w' => ∃ v, e = .returned (.tuple #[.int .i64 (specFind st xs).id, v]) ∧ ErrVal w' 0 v (specFind st xs).N (specFind st xs).l ∧ Below W.heap.size W w')) := fun W h1 h2 => refFind_any W base q r' st h1 A m c xs HM.out h2 HNIL.out (by have := HL.out; omega)
  clear hor hb2 k0 k1 k2 k3
  generalize specFind st xs = R at *
  go_wp2_with fail
  refine (HSPEC.out w2 HQ2.out (HR.out.below HX2.out hw0)).mono ?_
  rintro e w3 ⟨v3, rfl, hev, hb3⟩
  obtain ⟨Aa, la, ca, Ab, lb, cb, rfl⟩ := hev.form
  have HEV := hid hev
  have HQ3 := hid (HQ2.out.below hb3)
  have HP3 := hid (HP2.out.below hb3)
  have HK3 := hid (HK2.out.below hb3)
  have HLC3 := hid (HLC2.out.below hb3)
  have HOR3 := hid (HOR.out.below hb3)
  have HX3 := hid (HX2.out.trans (hb3.mono hb2s))
  have HBT3 := hid (HBT2.out.trans (hb3.mono hb2s))
  have HE3 := hid (HE2.out.below' hb3)
  have hb4 : Below w3.heap.size w3 (w3.alloc (.cells #[.int .i64 R.N, .slice Aa la ca, .slice Ab lb cb] 39)) := below_new w3 _
  have HB4 := hid hb4
  clear hev hb3 hb4 k0' k1' k2' k3'
  go_wp2_with fail
  refine (rawIs_any B S _ (HE3.out.below' HB4.out) v2 _ R.N R.l (HOR3.out.below HB4.out) (HEV.out.below HB4.out)).mono ?_
  rintro e w5 ⟨rfl, hb5⟩
  have HB5 := hid (below_then HB4.out hb5 HB4.out.size)
  have HP5 := hid (HP3.out.below HB5.out)
  have HQ5 := hid (HQ3.out.below HB5.out)
  have HK5 := hid (HK3.out.below HB5.out)
  have HLC5 := hid (HLC3.out.below HB5.out)
  have hb3s : base ≤ w3.heap.size := Nat.le_trans hbase0 HBT3.out.size
  have HX5 := hid (HX3.out.trans (HB5.out.mono hb3s))
  have HBT5 := hid (HBT3.out.trans (HB5.out.mono hb3s))
  clear hb5
  have hgw5 : g < w5.heap.size := (Array.getElem?_eq_some_iff.1 HLC5.out).1
  have k35 := HK5.out.cells.2.2.2
  go_wp2_with fail
  refine (kept_calls w5 g A m c xs HM.out hlen HLC5.out (HR.out.below HX5.out hw0)).mono ?_
  rintro e w6 ⟨rfl, nk, rfl⟩
  have hm200 : m ≤ 200 := by have := HM.out; have := HL.out; omega
  clear k35
  go_wp2_with fail
  go_loopw [34] (fun i wr => ∃ (k : Nat) (cs : Array Value), k ≤ m ∧ i = .int .i64 k ∧ wr.heap[g]? = some (.cells cs 3 (0, 0)) ∧ cs.size = m + 2 ∧ (∀ j, j ≠ g → wr.heap[j]? = w5.heap[j]?) ∧ Below g w5 wr) (fun i _ => m - (intOf i).toNat)
  case atStart => exact ⟨0, _, Nat.zero_le _, rfl, HLC5.out, by simp [lentCells]; exact HM.out.symm, fun _ _ => rfl, below_drawn (Below.refl _ _) _⟩
  case round =>
    obtain ⟨k, cs, hk, rfl, hg, hcs, hs, hb⟩ := hrel
    have HG := hid hg
    have HS := hid hs
    have HBk := hid hb
    have HCS := hid hcs
    clear hs hb
    by_cases hlt : k < m
    · have hc : wr.cell? ⟨g, k, none⟩ = some (cs[k]'(by omega)) := by simp [World.cell?, hg]
      have hf : wr.frozen? ⟨g, k, none⟩ = false := by simp [World.frozen?, hg]
      obtain ⟨u, hu⟩ : ∃ u, u = cs[k]'(by omega) := ⟨_, rfl⟩
      rw [← hu] at hc
      clear hu hg hcs
      go_wp2_with fail
      go_roundw
      case measure => simp [intOf]; omega
      case rel =>
        refine ⟨k + 1, _, by omega, by go_num, heap_setCell_same wr g k _ _ _ HG.out, by rw [Array.size_setIfInBounds]; exact HCS.out, fun j hj => ?_, Below.setCell HBk.out (Nat.le_refl _) _⟩
        rw [Below.heap_setCell _ _ _ _ (show j ≠ g from hj)]
        exact HS.out j hj
    · clear hg hcs
      have HP7 := hid (HP5.out.only HLC5.out HS.out HBk.out.size)
      have HQ7 := hid (HQ5.out.only (fun h => h rfl) HLC5.out HS.out HBk.out.size)
      have HBT7 := hid (HBT5.out.trans (HBk.out.mono hg1))
      go_wp2_with fail
      refine (bagLen_any wr base p r st HP7.out).mono ?_
      rintro e w8 ⟨rfl, rfl⟩
      go_wp2_with fail
      refine (refLen_any wr base q r' st HQ7.out).mono ?_
      rintro e w8 ⟨rfl, rfl⟩
      go_wp2_with fail
      go_ret
      exact ⟨by simp, _, _, HP7.out, HQ7.out, HBT7.out⟩
end Go.Proofs.YtapebbejdgeijaaDoor
