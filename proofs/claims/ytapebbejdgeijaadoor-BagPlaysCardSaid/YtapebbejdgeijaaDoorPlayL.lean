/- BagPlays: the whole walk. -/
import Derived.Test.YtapebbejdgeijaaDoorPlayN
import Derived.Test.YtapebbejdgeijaaDoorPlay0
import Derived.Test.YtapebbejdgeijaaDoorPlay1
import Derived.Test.YtapebbejdgeijaaDoorPlay2
import Derived.Test.YtapebbejdgeijaaDoorPlay3
import Derived.Test.YtapebbejdgeijaaDoorPlay4
namespace Go.Proofs.YtapebbejdgeijaaDoor
open Go.RowKit Go.Extern.Stop Go.Stop Go.Extern Go.Deep

theorem plays_calls {X : Nat → Prop} (B : Nat) (S : Nat → Addr) (w0 w : World) (hE : Env B S w) (base : Nat) (hB : B ≤ base) (hw0 : w0.heap.size ≤ base) (hb0 : Below base w0 w) (p q : Value) (r r' : Nat) (st : BSt) (hp : BagIn w base p r st) (hq : RefIn w base q r' X st) (hrr : r ≠ r') (kind I J : Int) (A : Option Addr) (m c : Nat) (xs : List Int) (hm : m = xs.length) (hr : RI w0 .i64 A xs) (hA : A = none → c = 0) (hl : xs.length ≤ 200) (hbase : base ≤ w.heap.size) :
    Calls Tryd.prog 18 #[p, q, .agg #[.int .i64 kind, .int .i64 I, .int .i64 J, .slice A m c]] w (PlaysPost base p q r r' w) := by
  obtain ⟨y, hy, ey⟩ := mod_nat kind 5 (by decide) (by decide)
  rcases (show y = 0 ∨ y = 1 ∨ y = 2 ∨ y = 3 ∨ y = 4 by omega) with rfl | rfl | rfl | rfl | rfl
  · exact plays0_calls B S w0 w hE base hB hw0 hb0 p q r r' st hp hq hrr kind I J ey A m c xs hm hr hA hl hbase
  · exact plays1_calls B S w0 w hE base hB hw0 hb0 p q r r' st hp hq hrr kind I J ey A m c xs hm hr hA hl hbase
  · exact plays2_calls B S w0 w hE base hB hw0 hb0 p q r r' st hp hq hrr kind I J ey A m c xs hm hr hA hl hbase
  · exact plays3_calls B S w0 w hE base hB hw0 hb0 p q r r' st hp hq hrr kind I J ey A m c xs hm hr hA hl hbase
  · exact plays4_calls B S w0 w hE base hB hw0 hb0 p q r r' st hp hq hrr kind I J ey A m c xs hm hr hA hl hbase

/-- A call, as it lies in memory. -/
structure OpV where
  kind : Int
  I : Int
  J : Int
  A : Option Addr
  c : Nat
  xs : List Int
def OpV.ok (w : World) (v : OpV) : Prop := RI w .i64 v.A v.xs ∧ (v.A = none → v.c = 0)
def ScriptAt (w : World) (A : Option Addr) (m : Nat) : Prop := m ≤ 9223372036854775807 ∧ ∀ j, j < m → ∃ b o v, A = some ⟨b, o, none⟩ ∧ b < w.heap.size ∧ OpV.ok w v ∧
  w.cell? ⟨b, o + j * 4, none⟩ = some (.int .i64 v.kind) ∧ w.cell? ⟨b, o + j * 4 + 1, none⟩ = some (.int .i64 v.I) ∧ w.cell? ⟨b, o + j * 4 + 2, none⟩ = some (.int .i64 v.J) ∧ w.cell? ⟨b, o + j * 4 + 3, none⟩ = some (.slice v.A v.xs.length v.c)

/-- The reference's cells of one set. -/
theorem RefIn.at_ {X : Nat → Prop} {w : World} {base r n k : Nat} {q : Value} {sets : List (List Int)} {ws : List Int} (h : RefIn w base q r X (some (n, sets))) (hk : sets[k]? = some ws) :
    ∃ b g cap A c, q = .pointer (some ⟨b, 0, none⟩) ∧ w.cell? ⟨b, 1, none⟩ = some (.slice (some ⟨g, 0, none⟩) sets.length cap) ∧ w.cell? ⟨g, k, none⟩ = some (.slice A (members n ws).length c) ∧ RI w .i64 A (members n ws) := by
  obtain ⟨b, rfl, vs, rows, h⟩ := h
  have hkl := (List.getElem?_eq_some_iff.1 hk).1
  obtain ⟨g, cap, rfl, hg, _, hc', hm'⟩ := own_form h.own (by omega)
  obtain ⟨v, hv, hown⟩ := h.elt k ws hk
  have hcell := h.own.cellAt k (by omega)
  obtain ⟨A, c, rfl, hc, hm, hri⟩ := own_ri hown
  exact ⟨b, g, cap, A, c, rfl, (cells3 h.blk).2.1, by simpa [hv] using hcell, hri⟩

theorem BagIn.len {w : World} {base r : Nat} {p : Value} {st : BSt} (h : BagIn w base p r st) : stLen st ≤ 4096 := by
  cases st with
  | none => exact Nat.zero_le _
  | some s => obtain ⟨b, rfl, vs, rows, h⟩ := h; exact h.len

set_option maxRecDepth 100000 in
theorem bagPlays_calls (B : Nat) (S : Nat → Addr) (w : World) (hE : Env B S w) (n : Int) (A : Option Addr) (m c : Nat) (hs : ScriptAt w A m) :
    Calls Tryd.prog 4 #[.int .i64 n, .slice A m c] w (RetTrue w) := by
  have HE := hid hE
  have HS := hid hs
  have hm9 : m ≤ 9223372036854775807 := hs.1
  clear hE hs
  go_enter Tryd.func4, Tryd.ntmps4
  go_wp2_with fail
  refine (awake09_calls B S w HE.out).mono ?_
  rintro e w1 ⟨rfl, hb1⟩
  have W1 := hid hb1
  have HE1 := hid (HE.out.below' hb1)
  have hBase : B ≤ w1.heap.size := Nat.le_trans HE.out.le W1.out.size
  clear hb1
  go_wp2_with fail
  refine (bagNew_any B S w1 HE1.out n).mono ?_
  rintro e w2 ⟨o, r, v2, rfl, hor, hp2, hr2, hr2', ho2, hb2⟩
  have HOR2 := hid hor
  have HP2 := hid hp2
  have HRR := hid hr2
  have HRR' := hid hr2'
  have HO2 := hid ho2
  have W2 := hid hb2
  have HE2 := hid (HE1.out.below' hb2)
  clear hor hp2 hr2 hr2' ho2 hb2
  go_wp2_with fail
  refine (refNew_any w2 n).mono ?_
  rintro e w3 ⟨o', r', v3, rfl, hev, hq3, hr3, hr3', ho3, hb3⟩
  obtain ⟨Aa, la, ca, Ab, lb, cb, rfl⟩ := hev.form
  have HEV := hid hev
  have HP3 := hid (HP2.out.below hb3)
  have HOR3 := hid (HOR2.out.below hb3)
  have HE3 := hid (HE2.out.below' hb3)
  have W3 := hid (below_then W2.out hb3 W2.out.size)
  have hbs3 : w1.heap.size ≤ w3.heap.size := W3.out.size
  have HQ3 : Hid (RefIn w3 w1.heap.size (.pointer o') r' (fun _ => True) (newSt n)) := by
    revert hq3
    cases newSt n with
    | none => exact fun h => ⟨h.1, hbs3⟩
    | some s => rintro ⟨b, e, h⟩; exact ⟨b, e, h.base W2.out.size⟩
  have HNE : Hid (r ≠ r') := by
    cases hn : newSt n with
    | none =>
      have h1 := hr3' hn
      have h2 := HRR'.out hn
      show r ≠ r'
      omega
    | some s =>
      have h1 := HRR.out (by rw [hn]; simp)
      have h2 := hr3 (by rw [hn]; simp)
      show r ≠ r'
      omega
  have hio : o'.isNone = o.isNone := by
    rcases HO2.out with ⟨h1, h2⟩ | ⟨h1, b, h2⟩
    · rcases ho3 with ⟨h3, h4⟩ | ⟨h3, b', h4⟩
      · rw [h2, h4]
      · exact absurd h1 h3
    · rcases ho3 with ⟨h3, h4⟩ | ⟨h3, b', h4⟩
      · exact absurd h3 h1
      · rw [h2, h4]; rfl
  clear hev hq3 hr3 hr3' ho3 hb3 HRR HRR' HO2
  generalize newSt n = st at *
  generalize newN n = N at *
  generalize newL n = l at *
  have HB4 : Hid (Below w3.heap.size w3 (w3.alloc (.cells #[.int .i64 N, .slice Aa la ca, .slice Ab lb cb] 39))) := below_new w3 _
  have q1 : ∀ W : World, (binOp .eql 24 (.pointer o) (.pointer none)).run Tryd.prog W = .ok (.bool o.isNone) W := fun W => by cases o <;> rfl
  have q2 : ∀ W : World, (binOp .eql 44 (.pointer o') (.pointer none)).run Tryd.prog W = .ok (.bool o.isNone) W := fun W => by rw [← hio]; cases o' <;> rfl
  clear hio
  go_wp2_with fail
  refine (rawIs_any B S _ (HE3.out.below' HB4.out) v2 _ N l (HOR3.out.below HB4.out) (HEV.out.below HB4.out)).mono ?_
  rintro e w5 ⟨rfl, hb5⟩
  have HB5 := hid (below_then HB4.out hb5 HB4.out.size)
  have HP5 := hid (HP3.out.below HB5.out)
  have HQ5 := hid (HQ3.out.below HB5.out)
  have W5 := hid (below_then W3.out HB5.out W3.out.size)
  clear hb5 HP2 HOR2 HP3 HQ3 HEV HOR3 HB4
  go_wp2_with fail
  clear q1 q2
  go_loopw [9] (fun i wr => ∃ (k : Nat) (st' : BSt) (X' : Nat → Prop), k ≤ m ∧ i = .int .i64 k ∧ BagIn wr w1.heap.size (.pointer o) r st' ∧ RefIn wr w1.heap.size (.pointer o') r' X' st' ∧ Below w1.heap.size w1 wr) (fun i _ => m - (intOf i).toNat)
  case atStart => exact ⟨0, _, _, Nat.zero_le _, rfl, HP5.out, HQ5.out, W5.out⟩
  case round =>
    obtain ⟨k, st', X', hk, rfl, hp, hq, hb⟩ := hrel
    have HP := hid hp
    have HQ := hid hq
    have HB := hid hb
    clear hp hq hb
    by_cases hin : k < m ∧ k < 200
    · obtain ⟨hkm, hk200⟩ := hin
      obtain ⟨b, o4, ⟨kd, I, J, A4, c4, xs⟩, rfl, hbl, hok, e0, e1, e2, e3⟩ := HS.out.2 k hkm
      have WW := below_then W1.out HB.out W1.out.size
      dsimp only at e0 e1 e2 e3
      rw [← WW.cell (show b < w.heap.size from hbl)] at e0 e1 e2 e3
      obtain ⟨m4, hm4⟩ : ∃ m4, m4 = xs.length := ⟨_, rfl⟩
      rw [← hm4] at e3
      have HM4 := hid hm4
      have HRI : Hid (RI w1 .i64 A4 xs) := hok.1.below W1.out (Nat.le_refl _)
      have HN4 : Hid (A4 = none → c4 = 0) := hok.2
      clear hok WW hm4
      by_cases h200 : m4 ≤ 200
      · go_wp2_with fail
        refine (plays_calls B S w1 wr (HE1.out.below' HB.out) w1.heap.size hBase (Nat.le_refl _) HB.out _ _ r r' st' HP.out HQ.out HNE.out kd I J A4 m4 c4 xs HM4.out HRI.out HN4.out (by rw [← HM4.out]; exact h200) HB.out.size).mono ?_
        rintro e w6 ⟨rfl, st6, X6, hp6, hq6, hb6⟩
        have HP6 := hid hp6
        have HQ6 := hid hq6
        have HB6 := hid (HB.out.trans hb6)
        clear hp6 hq6 hb6
        go_wp2_with fail
        go_roundw
        case measure => simp [intOf]; omega
        case rel => exact ⟨k + 1, _, _, by omega, by go_num, HP6.out, HQ6.out, HB6.out⟩
      · go_wp2_with fail
        go_roundw
        case measure => simp [intOf]; omega
        case rel => exact ⟨k + 1, _, _, by omega, by go_num, HP.out, HQ.out, HB.out⟩
    · generalize wr = w7 at *
      rcases (show ¬ k < m ∨ (k < m ∧ ¬ k < 200) by omega) with hno | ⟨hno1, hno2⟩
      all_goals
        go_wp2_with fail
        obtain ⟨L, hL⟩ : ∃ L, L = stLen st' := ⟨_, rfl⟩
        have hL4 : L ≤ 4096 := by rw [hL]; exact HP.out.len
        have HL := hid hL
        clear hL
        go_loopw [10] (fun i wr => ∃ j : Nat, j ≤ L ∧ i = .int .i64 j ∧ BagIn wr w1.heap.size (.pointer o) r st' ∧ RefIn wr w1.heap.size (.pointer o') r' X' st' ∧ Below w1.heap.size w1 wr) (fun i _ => L - (intOf i).toNat)
        case atStart => exact ⟨0, Nat.zero_le _, rfl, HP.out, HQ.out, HB.out⟩
        case round =>
          obtain ⟨j, hj, rfl, hp, hq, hb⟩ := hrel
          have HPj := hid hp
          have HQj := hid hq
          have HBj := hid hb
          clear hp hq hb
          by_cases hjl : j < L
          · obtain ⟨n', sets, rfl⟩ : ∃ n' sets, st' = some (n', sets) := by
              cases st' with
              | none => have := HL.out; simp [stLen] at this; omega
              | some s => exact ⟨s.1, s.2, rfl⟩
            have hsl : j < sets.length := by have : L = sets.length := HL.out; omega
            obtain ⟨ws, hws⟩ : ∃ ws, sets[j]? = some ws := ⟨_, List.getElem?_eq_getElem hsl⟩
            have HG : Hid (specGet (some (n', sets)) (j : Int) = ⟨members n' ws, 0, []⟩) := by
              rcases specGet_cases n' sets (j : Int) with ⟨k', ws', e1, e2, e3⟩ | ⟨e1, _⟩
              · obtain rfl : j = k' := by omega
                obtain rfl := Option.some.inj (hws.symm.trans e2)
                exact e3
              · omega
            have HWS := hid hws
            clear hws
            have HSL := hid (show L = sets.length from HL.out)
            go_wp2_with fail
            refine (refLen_any wr w1.heap.size (.pointer o') r' _ HQj.out).mono ?_
            rintro e w8 ⟨rfl, rfl⟩
            rw [show stLen (some (n', sets)) = L from HSL.out.symm]
            go_wp2_with fail
            refine (bagGet_any B S wr (HE1.out.below' HBj.out) w1.heap.size (.pointer o) r _ HPj.out (j : Int)).mono ?_
            rw [HG.out]
            rintro e w8 ⟨A9, c9, v9, rfl, ho9, hor9, hb9⟩
            obtain rfl : v9 = .nilIface := by
              rcases hor9 with ⟨h, _⟩ | ⟨_, h, _⟩
              · exact h
              · cases h
            have HPk := hid (HPj.out.below hb9)
            have HQk := hid (HQj.out.below hb9)
            have HBk := hid (below_then HBj.out hb9 HBj.out.size)
            have HR9 := hid (own_ri_at ho9)
            obtain ⟨b2, g2, cap2, A2, c2, e2, f1, f2, hri2⟩ := HQk.out.at_ HWS.out
            have HR2 := hid hri2
            obtain rfl : o' = some ⟨b2, 0, none⟩ := by simpa using e2
            rw [show sets.length = L from HSL.out.symm] at f1
            clear e2 ho9 hor9 hb9 hri2
            dsimp only
            generalize members n' ws = ms at *
            obtain ⟨q9, hq9⟩ : ∃ q9, q9 = ms.length := ⟨_, rfl⟩
            rw [← hq9] at f2 ⊢
            have HQ9 := hid hq9
            clear hq9
            go_wp2_with fail
            refine (show Calls Tryd.prog 20 #[.slice A9 q9 c9, .slice A2 q9 c2] w8 _ from by rw [HQ9.out]; exact rawInts_calls w8 A9 A2 c9 c2 ms ms HR9.out HR2.out).mono ?_
            rintro e w10 ⟨rfl, nd, rfl⟩
            rw [decide_eq_true rfl]
            go_wp2_with fail
            go_roundw
            case measure => simp [intOf]; omega
            case rel => exact ⟨j + 1, by omega, by go_num, (HPk.out.below (below_drawn (Below.refl _ _) nd)), (HQk.out.below (below_drawn (Below.refl _ _) nd)), below_drawn HBk.out nd⟩
          · go_wp2_with fail
            refine (refLen_any wr w1.heap.size (.pointer o') r' _ HQj.out).mono ?_
            rintro e w8 ⟨rfl, rfl⟩
            rw [show stLen st' = L from HL.out.symm]
            go_wp2_with fail
            go_ret
            exact ⟨rfl, below_then W1.out HBj.out W1.out.size⟩
end Go.Proofs.YtapebbejdgeijaaDoor
