/- package forms: Narrow. -/
import Derived.Test.YtapebbejdgeijaaDoorFormF
namespace Go.Proofs.YtapebbejdgeijaaDoor
open Go.RowKit Go.Extern.Stop Go.Stop Go.Extern Go.Deep

def NarrowPost (S : Nat → Addr) (K R : Int) (T : List Int) (w : World) (e : Ending) (w' : World) : Prop :=
  Below w.heap.size w w' ∧ match ruleBad K R T with
  | none => ∃ A c, e = .returned (.tuple #[.agg #[.int .i64 K, .int .i64 ((narrowT K.toNat R.toNat T).1 : Nat), .slice A (narrowT K.toNat R.toNat T).2.length c], .nilIface]) ∧ w'.ownsRow w.heap.size 3 1 (.slice A (narrowT K.toNat R.toNat T).2.length c) (narrowT K.toNat R.toNat T).2.length ((narrowT K.toNat R.toNat T).2.map (Value.int .i64))
  | some i => ∃ v, e = .returned (.tuple #[zeroRule, v]) ∧ Chain S w' v (rootIx 1) [(opForms, 0), (opRule, i)]

structure NarAt (w wr : World) (k r : Nat) (T : List Int) (A : Option Addr) (m c gi r' : Nat) (T' : List Int) (A' : Option Addr) (m' c' : Nat) : Prop where
  b1 : Cell3 wr w.heap.size 57 (.int .i64 k) (.int .i64 r) (.slice A m c)
  b2 : Cell3 wr (w.heap.size + 1) 57 (.int .i64 0) (.int .i64 0) (.slice none 0 0)
  bi : Cell3 wr gi 57 (.int .i64 k) (.int .i64 r') (.slice A' m' c')
  lt : w.heap.size + 1 < gi
  o1 : wr.ownsRow w.heap.size 3 1 (.slice A m c) m (T.map (Value.int .i64))
  oi : wr.ownsRow w.heap.size 3 1 (.slice A' m' c') m' (T'.map (Value.int .i64))
  h1 : m = T.length
  hi : m' = T'.length
  bel : Below w.heap.size w wr

set_option maxRecDepth 100000 in
theorem narrow_calls (B : Nat) (S : Nat → Addr) (w : World) (hE : Env B S w) (K R : Int) (A : Option Addr) (m c : Nat) (T : List Int) (hm : m = T.length) (hr : RI w .i64 A T) :
    Calls Tryd.prog 22 #[.agg #[.int .i64 K, .int .i64 R, .slice A m c]] w (NarrowPost S K R T w) := by
  obtain ⟨w1, hw1⟩ : ∃ w1, w1 = w.alloc (.cells #[.int .i64 K, .int .i64 R, .slice A m c] 57) := ⟨_, rfl⟩
  obtain ⟨w2, hw2⟩ : ∃ w2, w2 = w1.alloc (.cells #[.int .i64 0, .int .i64 0, .slice none 0 0] 57) := ⟨_, rfl⟩
  have s1 : w1.heap.size = w.heap.size + 1 := by rw [hw1, World.size_alloc]
  have b1 : Below w.heap.size w w1 := by rw [hw1]; exact below_new w _
  have b2 : Below w1.heap.size w1 w2 := by rw [hw2]; exact below_new w1 _
  have b12 := below_then b1 b2 b1.size
  have c1 : Cell3 w1 w.heap.size 57 (.int .i64 K) (.int .i64 R) (.slice A m c) := by rw [hw1]; exact heap_alloc_new w _
  have c2 : Cell3 w2 (w.heap.size + 1) 57 (.int .i64 0) (.int .i64 0) (.slice none 0 0) := by rw [hw2, ← s1]; exact heap_alloc_new w1 _
  have c12 := c1.below b2
  obtain ⟨k0, k1, k2⟩ := cells3 c12
  have B12 := hid b12
  have C12 := hid c12
  have C22 := hid c2
  have HR2 := hid (hr.below b12 (Nat.le_refl _))
  have HE2 := hid ((hE.below' b1).below' b2)
  have HM := hid hm
  rw [hw2, hw1] at k0 k1 k2
  have HW : Hid (w2 = (w.alloc (.cells #[.int .i64 K, .int .i64 R, .slice A m c] 57)).alloc (.cells #[.int .i64 0, .int .i64 0, .slice none 0 0] 57)) := by
    show _ = _
    rw [hw2, hw1]
  clear hw1 hw2 b1 b2 b12 c1 c2 c12 hr hm s1 hE
  go_enter Tryd.func22, Tryd.ntmps22
  go_wp2_with fail
  rw [← show w2 = _ from HW.out]
  refine (fCheck_calls B S w2 HE2.out 0 K R A m c T HM.out HR2.out).mono ?_
  rintro e w3 ⟨hb, h⟩
  have HB3 := hid (below_then B12.out hb B12.out.size)
  have C13 := hid (C12.out.below hb)
  have C23 := hid (C22.out.below hb)
  have HR3 := hid (HR2.out.below hb (Nat.le_refl _))
  clear hb k0 k1 k2
  cases hbad : ruleBad K R T with
  | some i =>
    rw [hbad] at h
    obtain ⟨v, rfl, hc⟩ := h
    obtain ⟨t, a, rfl⟩ := hc.form
    have HC := hid hc
    have HBAD := hid hbad
    obtain ⟨c0, f0, c1, f1, c2, f2, r0, r1, r2⟩ := C23.out.facts (.int .i64 0) (.int .i64 0) (.slice none 0 0)
    clear hc hbad
    go_wp2_with fail
    refine bodyPost_ret (v := .tuple #[zeroRule, .iface t (.pointer (some a))]) (by simp [results, Tryd.results22, go_sem, r0, r1, r2, zeroRule]) rfl ?_
    refine ⟨set3_below (x' := .int .i64 0) (y' := .int .i64 0) (z' := .slice none 0 0) HB3.out (Nat.le_succ _), ?_⟩
    rw [HBAD.out]
    exact ⟨_, rfl, Chain.only C23.out (by decide) set3_same HC.out⟩
  | none =>
    rw [hbad] at h
    obtain rfl := h
    obtain ⟨k, r, rfl, rfl, hk1, hk4, hr3, hTl, _⟩ := ruleBad_none hbad
    have HBAD := hid hbad
    have HTL := hid hTl
    obtain ⟨k0, k1, k2⟩ := cells3 C13.out
    clear hbad hTl
    go_wp2_with fail
    refine (widened_calls w3 k r r hk1 hk4 (Nat.le_refl _) hr3 A m c T HM.out HTL.out HR3.out).mono ?_
    rw [widenT_self HTL.out]
    rintro e w4 ⟨A4, c4, rfl, ho, hb⟩
    have HB4 := hid (below_then HB3.out hb HB3.out.size)
    have C14 := hid (C13.out.below hb)
    have C24 := hid (C23.out.below hb)
    rw [← HM.out] at ho ⊢
    have HO4 := hid (own_base ho HB3.out.size)
    clear ho hb k0 k1 k2
    obtain ⟨c0, f0, c1, f1, c2, f2, r0, r1, r2⟩ := C14.out.facts (.int .i64 k) (.int .i64 r) (.slice A4 m c4)
    have HO5 := hid (own_keep HO4.out w.heap.size (own_not_block HO4.out C14.out (by decide)) (set3_same (x' := .int .i64 k) (y' := .int .i64 r) (z' := .slice A4 m c4)))
    have HB5 := hid (set3_below (x' := .int .i64 k) (y' := .int .i64 r) (z' := .slice A4 m c4) HB4.out (Nat.le_refl w.heap.size))
    have C15 := hid (set3_cell (x' := .int .i64 k) (y' := .int .i64 r) (z' := .slice A4 m c4) C14.out)
    have C25 : Hid (Cell3 (set3 w4 w.heap.size (.int .i64 k) (.int .i64 r) (.slice A4 m c4)) (w.heap.size + 1) 57 (.int .i64 0) (.int .i64 0) (.slice none 0 0)) := (set3_same _ (by omega)).trans C24.out
    go_wp2_with fail
    refine (inner_any (set3 w4 w.heap.size (.int .i64 k) (.int .i64 r) (.slice A4 m c4)) w.heap.size k r hk1 hk4 hr3 A4 m c4 T HM.out HTL.out HB5.out.size HO5.out).mono ?_
    rintro e w6 ⟨r', T', A', m', c', ok, rfl, hm', ho', hb', ht, hf⟩
    have B7 := hid (below_new w6 (.cells #[.int .i64 k, .int .i64 r', .slice A' m' c'] 57))
    have HN : Hid (NarAt w (w6.alloc (.cells #[.int .i64 k, .int .i64 r', .slice A' m' c'] 57)) k r T A4 m c4 w6.heap.size r' T' A' m' c') := {
      b1 := (C15.out.below hb').below B7.out
      b2 := (C25.out.below hb').below B7.out
      bi := heap_alloc_new w6 _
      lt := (C25.out.below hb').lt
      o1 := own_below (own_below HO5.out hb' (Nat.le_refl _)) B7.out (Nat.le_refl _)
      oi := own_below ho' B7.out (Nat.le_refl _)
      h1 := HM.out
      hi := hm'
      bel := below_then (below_then HB5.out hb' HB5.out.size) B7.out (below_then HB5.out hb' HB5.out.size).size }
    have HT := hid ht
    have HF := hid hf
    clear hm' ho' hb' ht hf B7 c0 f0 c1 f1 c2 f2 r0 r1 r2
    go_wp2_with fail
    go_loopw [5, 6] (fun p o wr => ∃ (q : Nat) (Tq : List Int) (Aq : Option Addr) (mq cq gi q' : Nat) (T' : List Int) (A' : Option Addr) (m' c' : Nat) (ok : Bool), q ≤ 3 ∧ p = .pointer (some ⟨gi, 0, none⟩) ∧ o = .bool ok ∧ NarAt w wr k q Tq Aq mq cq gi q' T' A' m' c' ∧ Tq.length = sz k q ∧ narrowT k q Tq = narrowT k r T ∧
      (ok = true → q = q' + 1 ∧ T'.length = sz k q' ∧ narrowT k q' T' = narrowT k q Tq) ∧ (ok = false → narrowT k q Tq = (q, Tq))) (fun _ _ wr => match wr.cell? ⟨w.heap.size, 1, none⟩ with | some (.int _ n) => n.toNat | _ => 0)
    case atStart => exact ⟨r, T, A4, m, c4, _, r', T', A', m', c', ok, hr3, rfl, rfl, HN.out, HTL.out, rfl, HT.out, HF.out⟩
    case round =>
      clear HN HT HF HO5 HB5 C15 C25 HB4 C14 C24 HO4 HB3 C13 C23 HR3 HR2 B12 C12 C22 HE2 HW
      obtain ⟨q, Tq, Aq, mq, cq, gi, q', T', A', m', c', ok, hq3, rfl, rfl, hN, hl, hn, ht, hf⟩ := hrel
      have HN := hid hN
      have HL := hid hl
      have HNA := hid hn
      have HT := hid ht
      have HF := hid hf
      obtain ⟨j0, j1, j2⟩ := cells3 hN.bi
      clear hN hl hn ht hf
      cases ok with
      | true =>
        obtain ⟨hqq, hl', hn'⟩ := HT.out rfl
        have HL' := hid hl'
        have HN' := hid hn'
        have hq3' : q' ≤ 3 := by omega
        obtain ⟨c0, f0, c1, f1, c2, f2, r0, r1, r2⟩ := HN.out.b1.facts (.int .i64 k) (.int .i64 q') (.slice A' m' c')
        have hne : gi ≠ w.heap.size := by have := HN.out.lt; omega
        have CI := hid (show Cell3 (set3 wr w.heap.size (.int .i64 k) (.int .i64 q') (.slice A' m' c')) gi 57 (.int .i64 k) (.int .i64 q') (.slice A' m' c') from (set3_same _ hne).trans HN.out.bi)
        have C1 := hid (set3_cell (x' := .int .i64 k) (y' := .int .i64 q') (z' := .slice A' m' c') HN.out.b1)
        have C2 := hid (show Cell3 (set3 wr w.heap.size (.int .i64 k) (.int .i64 q') (.slice A' m' c')) (w.heap.size + 1) 57 (.int .i64 0) (.int .i64 0) (.slice none 0 0) from (set3_same _ (by omega)).trans HN.out.b2)
        have HBL := hid (set3_below (x' := .int .i64 k) (y' := .int .i64 q') (z' := .slice A' m' c') HN.out.bel (Nat.le_refl w.heap.size))
        have HOI := hid (own_keep HN.out.oi w.heap.size (own_not_block HN.out.oi HN.out.b1 (by decide)) (set3_same (x' := .int .i64 k) (y' := .int .i64 q') (z' := .slice A' m' c')))
        have BA := hid (below_new (set3 wr w.heap.size (.int .i64 k) (.int .i64 q') (.slice A' m' c')) (.cells #[.int .i64 k, .int .i64 q', .slice A' m' c'] 57))
        obtain ⟨i0, i1, i2⟩ := cells3 CI.out
        obtain ⟨x0, x1, x2⟩ := cells3 (C1.out.below BA.out)
        unfold set3 at i0 i1 i2 x0 x1 x2
        clear hqq hl' hn' hne
        go_wp2_with fail
        have HBA := below_then HBL.out BA.out HBL.out.size
        refine (inner_any ((set3 wr w.heap.size (.int .i64 k) (.int .i64 q') (.slice A' m' c')).alloc (.cells #[.int .i64 k, .int .i64 q', .slice A' m' c'] 57)) w.heap.size k q' hk1 hk4 hq3' A' m' c' T' HN.out.hi HL'.out HBA.size (own_below HOI.out BA.out (Nat.le_refl _))).mono ?_
        rintro e w7 ⟨ρ2, T2, A2, m2, c2', ok2, rfl, hm2, ho2, hb2, ht2, hf2⟩
        have HGN : Hid (Cell3 w7 wr.heap.size 57 (.int .i64 k) (.int .i64 q') (.slice A' m' c')) := by
          have h := heap_alloc_new (set3 wr w.heap.size (.int .i64 k) (.int .i64 q') (.slice A' m' c')) (.cells #[.int .i64 k, .int .i64 q', .slice A' m' c'] 57)
          rw [set3_size] at h
          exact Cell3.below h hb2
        have hgw : w.heap.size + 1 < wr.heap.size := HN.out.b2.lt
        have HB7 := hid (below_then HBA hb2 HBA.size)
        have C17 := hid ((C1.out.below BA.out).below hb2)
        have C27 := hid ((C2.out.below BA.out).below hb2)
        have HO7 := hid (own_below (own_below HOI.out BA.out (Nat.le_refl _)) hb2 (Nat.le_refl _))
        have HO2 := hid ho2
        have HT2 := hid ht2
        have HF2 := hid hf2
        have HM2 := hid hm2
        obtain ⟨d0, g0, d1, g1, d2, g2, y0, y1, y2⟩ := HGN.out.facts (.int .i64 k) (.int .i64 ρ2) (.slice A2 m2 c2')
        have HNN : Hid (NarAt w (set3 w7 wr.heap.size (.int .i64 k) (.int .i64 ρ2) (.slice A2 m2 c2')) k q' T' A' m' c' wr.heap.size ρ2 T2 A2 m2 c2') := {
          b1 := (set3_same _ (by omega)).trans C17.out
          b2 := (set3_same _ (by omega)).trans C27.out
          bi := set3_cell HGN.out
          lt := hgw
          o1 := own_keep HO7.out _ (own_not_block HO7.out HGN.out (by decide)) set3_same
          oi := own_keep HO2.out _ (own_not_block HO2.out HGN.out (by decide)) set3_same
          h1 := HN.out.hi
          hi := HM2.out
          bel := set3_below HB7.out (by omega) }
        clear hm2 ho2 hb2 ht2 hf2 HBA i0 i1 i2 x0 x1 x2 c0 f0 c1 f1 c2 f2 r0 r1 r2
        go_wp2_with fail
        go_roundw
        case measure =>
          have e1 := (cells3 HNN.out.b1).2.1
          have e2 := (cells3 HN.out.b1).2.1
          have e3 := (HT.out trivial).1
          unfold set3 at e1
          rw [e1, e2]
          simp
          omega
        case rel => exact ⟨q', T', A', m', c', wr.heap.size, ρ2, T2, A2, m2, c2', ok2, hq3', rfl, rfl, HNN.out, HL'.out, HN'.out.trans HNA.out, HT2.out, HF2.out⟩
      | false =>
        have hfin : narrowT k r T = (q, Tq) := HNA.out.symm.trans (HF.out rfl)
        have HFIN := hid hfin
        obtain ⟨i0, i1, i2⟩ := cells3 HN.out.b1
        obtain ⟨c0, f0, c1, f1, c2, f2, r0, r1, r2⟩ := HN.out.b2.facts (.int .i64 k) (.int .i64 q) (.slice Aq mq cq)
        clear hfin
        go_wp2_with fail
        refine bodyPost_ret (v := .tuple #[.agg #[.int .i64 k, .int .i64 q, .slice Aq mq cq], .nilIface]) (by simp [results, Tryd.results22, go_sem, r0, r1, r2]) rfl ?_
        refine ⟨set3_below (x' := .int .i64 k) (y' := .int .i64 q) (z' := .slice Aq mq cq) HN.out.bel (Nat.le_succ _), ?_⟩
        rw [HBAD.out]
        show ∃ A c, _ ∧ _
        rw [Int.toNat_natCast, Int.toNat_natCast, HFIN.out]
        have ho := own_keep HN.out.o1 _ (own_not_block HN.out.o1 HN.out.b2 (by decide)) (set3_same (x' := .int .i64 k) (y' := .int .i64 q) (z' := .slice Aq mq cq))
        rw [HN.out.h1] at ho ⊢
        exact ⟨Aq, cq, rfl, ho⟩
end Go.Proofs.YtapebbejdgeijaaDoor
