/- bag: wrong, New, bits. -/
import Derived.Test.YtapebbejdgeijaaDoorErrC
import Derived.WalkSpells
import Derived.Deep.RegionWith
namespace Go.Proofs.YtapebbejdgeijaaDoor
open Go.RowKit Go.Extern.Stop Go.Stop Go.Extern Go.Deep

theorem Tryd.infoU64 : (Tryd.prog.info? 88).map (fun i => (i.zero, i.size, i.bytes)) = some (some (.int .u64 0), 1, 8) := by kernel_rfl

def opBag : ByteArray := ⟨#[98, 97, 103]⟩

theorem bagWrong_calls (B : Nat) (S : Nat → Addr) (w : World) (hE : Env B S w) (at_ n : Int) (hn : (n == 0) = false) :
    Calls Tryd.prog 40 #[.int .i64 at_, .int .i64 n] w (RetErr S (rootIx n) [(opBag, at_)] w) := by
  have HE := hid hE
  clear hE
  go_enter Tryd.func40, Tryd.ntmps40
  go_wp2_with (go_at_call 80; refine (faultNew_calls B S _ HE.out _ _ _ hn).mono ?_; rintro e w' ⟨v, rfl, hc, hb⟩)
  go_ret
  exact ⟨_, rfl, hc, hb⟩

/-- The words of a set of numbers below n. -/
def setBit (ws : List Int) (x : Int) : List Int := ws.set (x / 64).toNat (bits .or .u64 (ws.getD (x / 64).toNat 0) (IntKind.u64.wrap (2 ^ (x % 64).toNat)))
def bitsOf (n : Nat) (xs : List Int) : List Int := xs.foldl setBit (List.replicate ((n + 63) / 64) 0)
theorem bitsOf_snoc (n : Nat) (xs : List Int) (k : Nat) (x : Int) (h : xs[k]? = some x) : bitsOf n (xs.take (k + 1)) = setBit (bitsOf n (xs.take k)) x := by
  unfold bitsOf
  obtain ⟨hk, rfl⟩ := List.getElem?_eq_some_iff.1 h
  rw [List.take_succ_eq_append_getElem hk, List.foldl_append]
  rfl
/-- The first place whose number can't be a member. -/
def firstBad (n : Nat) (xs : List Int) : Option Nat := xs.findIdx? fun x => decide (x < 0 ∨ (n : Int) ≤ x)
theorem firstBad_none {n : Nat} {xs : List Int} (h : ∀ (j : Nat) (x : Int), xs[j]? = some x → 0 ≤ x ∧ x < n) : firstBad n xs = none := by
  unfold firstBad
  rw [List.findIdx?_eq_none_iff]
  intro x hx
  obtain ⟨j, hj, rfl⟩ := List.getElem_of_mem hx
  have := h j _ (List.getElem?_eq_getElem hj)
  simp; omega
theorem firstBad_some {n : Nat} {xs : List Int} {k : Nat} {x : Int} (hk : xs[k]? = some x) (hx : x < 0 ∨ (n : Int) ≤ x) (h : ∀ (j : Nat) (x : Int), j < k → xs[j]? = some x → 0 ≤ x ∧ x < n) : firstBad n xs = some k := by
  unfold firstBad
  obtain ⟨hk', rfl⟩ := List.getElem?_eq_some_iff.1 hk
  rw [List.findIdx?_eq_some_iff_getElem]
  refine ⟨hk', by simpa using hx, fun j hj => ?_⟩
  have := h j _ hj (List.getElem?_eq_getElem (by omega))
  simp; omega

def BitsPost (S : Nat → Addr) (n : Nat) (xs : List Int) (w : World) (e : Ending) (w' : World) : Prop :=
  Below w.heap.size w w' ∧ match firstBad n xs with
  | none => ∃ v, e = .returned (.tuple #[v, .nilIface]) ∧ w'.ownsRow w.heap.size 88 1 v ((n + 63) / 64) ((bitsOf n xs).map (Value.int .u64))
  | some i => ∃ v, e = .returned (.tuple #[.slice none 0 0, v]) ∧ Chain S w' v (rootIx 3) [(opBag, (i : Int))]

set_option maxRecDepth 100000 in
theorem bits_calls (B : Nat) (S : Nat → Addr) (w : World) (hE : Env B S w) (b n : Nat) (A : Option Addr) (c : Nat) (xs : List Int) (hn : n ≤ 8192) (hr : RI w .i64 A xs) (hb : w.cell? ⟨b, 0, none⟩ = some (.int .i64 n)) :
    Calls Tryd.prog 41 #[.pointer (some ⟨b, 0, none⟩), .slice A xs.length c] w (BitsPost S n xs w) := by
  have hlen := hr.1
  have HR := hid hr
  have HE := hid hE
  clear hr hE
  obtain ⟨m, hm⟩ : ∃ m, m = (n + 63) / 64 := ⟨_, rfl⟩
  have em : ((n : Int) + 63) / 64 = (m : Int) := by omega
  have hm1 : m ≤ 128 := by omega
  have HM := hid hm
  clear hm
  have hmk := run_make_row' (P := Tryd.prog) 83 88 (.int .u64 0) 8 Tryd.underlying83 Tryd.infoU64 rfl .i64 .i64 m (by omega) (by omega)
  go_enter Tryd.func41, Tryd.ntmps41
  go_wp2
  rw [em]
  clear em hmk
  go_loopw [21] (fun i wr => ∃ k : Nat, k ≤ xs.length ∧ i = .int .i64 k ∧ wr.ownsRow w.heap.size 88 1 (.slice (some ⟨w.heap.size, 0, none⟩) m m) m ((bitsOf n (xs.take k)).map (Value.int .u64)) ∧ Below w.heap.size w wr ∧ (∀ (j : Nat) (x : Int), j < k → xs[j]? = some x → 0 ≤ x ∧ x < n)) (fun i _ => xs.length - (intOf i).toNat)
  case atStart => exact ⟨0, Nat.zero_le _, rfl, by
    have := own_made w (.int .u64 0) 88 m (by omega)
    rw [show (bitsOf n (xs.take 0)).map (Value.int .u64) = List.replicate m (.int .u64 0) by rw [HM.out]; simp [bitsOf]]
    exact this, below_new w _, fun j x hj => absurd hj (by omega)⟩
  case round =>
    obtain ⟨k, hk, rfl, hown, hbl, hgood⟩ := hrel
    have HO := hid hown
    have HB := hid hbl
    have HG := hid hgood
    have hb' := (hbl.cell (World.block_lt_of_cell? w ⟨b, 0, none⟩ hb)).trans hb
    clear hown hbl hb hgood
    by_cases hlt : k < xs.length
    · obtain ⟨bA, oA, x, rfl, hxk, hc⟩ := (HR.out.below HB.out (Nat.le_refl _)).at_ hlt
      have HXK := hid hxk
      clear hxk
      by_cases hx : x < 0 ∨ (n : Int) ≤ x
      · have HX := hid hx
        rcases hx with hx | hx
        all_goals
          go_wp2_with (go_at_call 40; refine (bagWrong_calls B S _ (HE.out.below' HB.out) _ 3 (by decide)).mono ?_; rintro e w' ⟨v, rfl, hc, hb2⟩)
          go_ret2
          refine ⟨below_then HB.out hb2 HB.out.size, ?_⟩
          rw [firstBad_some HXK.out HX.out HG.out]
          exact ⟨_, rfl, hc⟩
      · have hx0 : 0 ≤ x := by omega
        have hx1 : x < n := by omega
        clear hx
        have hmx : (x / 64).toNat < m := by have := HM.out; omega
        obtain ⟨y, hy⟩ : ∃ y, y = (bitsOf n (xs.take k)).getD (x / 64).toNat 0 := ⟨_, rfl⟩
        have hlb : (bitsOf n (xs.take k)).length = m := by have := HO.out.1; simpa using this
        have hcell : wr.cell? ⟨w.heap.size, (x / 64).toNat, none⟩ = some (.int .u64 y) := by
          rw [HO.out.cellAt _ (by omega), hy]; simp [List.getElem?_eq_getElem (show (x / 64).toNat < (bitsOf n (xs.take k)).length by omega)]
        have hfz := HO.out.frozenAt (x / 64).toNat
        have HY := hid hy
        clear hy hlb
        have g0 : 0 ≤ x / 64 := by omega
        have g1 : x / 64 < (m : Int) := by omega
        go_wp2_with fail
        go_region
        go_wp2
        go_roundw
        case measure => simp [intOf]; omega
        case rel =>
          refine ⟨k + 1, by omega, by go_num, ?_, ?_, ?_⟩
          · rw [bitsOf_snoc n xs k x HXK.out]
            unfold setBit
            rw [List.map_set, ← HY.out]
            exact own_set HO.out _ _
          · exact (Below.setCell HB.out (Nat.le_refl _) _).drew
          · intro j z hj hz
            rcases Nat.lt_or_ge j k with h | h
            · exact HG.out j z h hz
            · obtain rfl : j = k := by omega
              obtain rfl : z = x := Option.some.inj (hz.symm.trans HXK.out)
              exact ⟨hx0, hx1⟩
    · have hk' : k = xs.length := by omega
      have HK := hid hk'
      clear hk'
      go_wp2
      go_ret2
      refine ⟨HB.out, ?_⟩
      rw [firstBad_none (fun j x hj => HG.out j x (by have := HK.out; have := (List.getElem?_eq_some_iff.1 hj).1; omega) hj)]
      refine ⟨_, rfl, ?_⟩
      have := HO.out
      rw [HK.out, List.take_length, HM.out] at this
      rw [HM.out]
      exact this

theorem bits_nil (B : Nat) (S : Nat → Addr) (w : World) (hE : Env B S w) (v : Value) :
    Calls Tryd.prog 41 #[.pointer none, v] w fun e w' => ∃ v, e = .returned (.tuple #[.slice none 0 0, v]) ∧ Chain S w' v (rootIx 11) [(opBag, 0)] ∧ Below w.heap.size w w' := by
  have HE := hid hE
  clear hE
  go_enter Tryd.func41, Tryd.ntmps41
  go_wp2_with (go_at_call 40; refine (bagWrong_calls B S _ HE.out _ 11 (by decide)).mono ?_; rintro e w' ⟨v, rfl, hc, hb2⟩)
  go_ret2
  exact ⟨_, rfl, hc, hb2⟩
end Go.Proofs.YtapebbejdgeijaaDoor
