/- bag, plain: words and their members; a set's text tells the set. -/
import Derived.Test.YtapebbejdgeijaaDoorBagE
namespace Go.Proofs.YtapebbejdgeijaaDoor
open Go.RowKit

theorem memb_setBit (ws : List Int) (x : Nat) (h : x / 64 < ws.length) (hr : ∀ y ∈ ws, 0 ≤ y ∧ y < 18446744073709551616) (y : Nat) : memb (setBit ws (x : Int)) y = (memb ws y || decide (y = x)) := by
  have e1 : ((x : Int) / 64).toNat = x / 64 := by omega
  have e2 : ((x : Int) % 64).toNat = x % 64 := by omega
  have h2 : (2 : Nat) ^ (x % 64) < 18446744073709551616 := Nat.pow_lt_pow_right (a := 2) (n := 64) (by decide) (by omega)
  obtain ⟨z, hz⟩ : ∃ z, ws[x / 64]? = some z := ⟨_, List.getElem?_eq_getElem h⟩
  have hzr := hr z (List.mem_of_getElem? hz)
  obtain ⟨q, rfl⟩ := Int.eq_ofNat_of_zero_le hzr.1
  have e3 : IntKind.u64.wrap (2 ^ (x % 64)) = ((2 ^ (x % 64) : Nat) : Int) := by
    rw [IntKind.wrap_u64, Int.natCast_pow]
    have : ((2 ^ (x % 64) : Nat) : Int) < 18446744073709551616 := by omega
    rw [Int.natCast_pow] at this
    rw [Int.emod_eq_of_lt (Int.pow_nonneg (by decide)) (by simpa using this)]
    rfl
  obtain ⟨p, hp⟩ : ∃ p, p = 2 ^ (x % 64) := ⟨_, rfl⟩
  rw [← hp] at e3 h2
  unfold memb setBit
  rw [e1, e2, e3, show ws.getD (x / 64) 0 = (q : Int) by rw [List.getD_eq_getElem?_getD, hz, Option.getD_some], u64_or _ _ (by omega) hzr.2 (by omega) (by omega), Int.toNat_natCast, Int.toNat_natCast, hp]
  by_cases hq : y / 64 = x / 64
  · rw [hq, List.getD_eq_getElem?_getD, List.getD_eq_getElem?_getD, List.getElem?_set_self h, hz, Option.getD_some, Option.getD_some, Int.toNat_natCast, Int.toNat_natCast, Nat.testBit_or, Nat.testBit_two_pow]
    congr 1
    rw [decide_eq_decide]
    omega
  · rw [List.getD_eq_getElem?_getD, List.getElem?_set_ne (by omega), ← List.getD_eq_getElem?_getD]
    have : decide (y = x) = false := by simp; intro e; exact hq (by rw [e])
    rw [this, Bool.or_false]

theorem memb_fold : ∀ (xs : List Int) (ws : List Int), (∀ x ∈ xs, 0 ≤ x ∧ x < 64 * (ws.length : Int)) → (∀ y ∈ ws, 0 ≤ y ∧ y < 18446744073709551616) → ∀ y : Nat, memb (xs.foldl setBit ws) y = (memb ws y || decide ((y : Int) ∈ xs))
  | [], ws, _, _, y => by simp
  | x :: xs, ws, hx, hw, y => by
    have h0 := hx x (by simp)
    obtain ⟨q, rfl⟩ := Int.eq_ofNat_of_zero_le h0.1
    rw [List.foldl_cons, memb_fold xs _ (fun z hz => by rw [setBit_length]; exact hx z (by simp [hz])) (setBit_range ws _ hw) y, memb_setBit ws q (by omega) hw y]
    simp [Bool.or_assoc]
    congr 1
    by_cases h : y = q
    · simp [h]
    · have : ¬ (y : Int) = q := by omega
      simp [h, this]

theorem memb_bitsOf (n : Nat) (xs : List Int) (hx : ∀ x ∈ xs, 0 ≤ x ∧ x < (n : Int)) (y : Nat) : memb (bitsOf n xs) y = decide ((y : Int) ∈ xs) := by
  unfold bitsOf
  rw [memb_fold xs _ (fun x h => by have := hx x h; simp; omega) (fun z hz => by rw [List.mem_replicate] at hz; omega) y]
  have : memb (List.replicate ((n + 63) / 64) 0) y = false := by
    unfold memb
    rw [List.getD_eq_getElem?_getD, List.getElem?_replicate]
    split <;> simp
  rw [this, Bool.false_or]

theorem words_ext {ws ws' : List Int} (hl : ws.length = ws'.length) (h1 : ∀ y ∈ ws, 0 ≤ y ∧ y < 18446744073709551616) (h2 : ∀ y ∈ ws', 0 ≤ y ∧ y < 18446744073709551616) (h : ∀ y, memb ws y = memb ws' y) : ws = ws' := by
  refine List.ext_getElem hl (fun i hi hi' => ?_)
  have r1 := h1 _ (List.getElem_mem hi)
  have r2 := h2 _ (List.getElem_mem hi')
  obtain ⟨a, ha⟩ := Int.eq_ofNat_of_zero_le r1.1
  obtain ⟨b, hb⟩ := Int.eq_ofNat_of_zero_le r2.1
  rw [ha, hb]
  rw [ha] at r1
  rw [hb] at r2
  congr 1
  refine Nat.eq_of_testBit_eq (fun j => ?_)
  by_cases hj : j < 64
  · have := h (64 * i + j)
    unfold memb at this
    rw [show (64 * i + j) / 64 = i by omega, show (64 * i + j) % 64 = j by omega, List.getD_eq_getElem?_getD, List.getD_eq_getElem?_getD, List.getElem?_eq_getElem hi, List.getElem?_eq_getElem hi', Option.getD_some, Option.getD_some, ha, hb] at this
    simpa using this
  · have p : (18446744073709551616 : Nat) ≤ 2 ^ j := (show (18446744073709551616 : Nat) = 2 ^ 64 by decide) ▸ Nat.pow_le_pow_right (by decide) (by omega)
    rw [Nat.testBit_lt_two_pow (by omega), Nat.testBit_lt_two_pow (by omega)]

/-! ### the text of a set -/
theorem bytesOf_inj {a b : Int} (ha : 0 ≤ a ∧ a < 18446744073709551616) (hb : 0 ≤ b ∧ b < 18446744073709551616) (h : bytesOf a 8 = bytesOf b 8) : a = b := by
  unfold bytesOf at h
  simp only [List.range, List.range.loop, List.map_cons, List.map_nil, List.cons.injEq] at h
  obtain ⟨h0, h1, h2, h3, h4, h5, h6, h7, _⟩ := h
  simp only [Int.pow_succ, Int.pow_zero, Int.one_mul, Int.reduceMul, Int.ediv_one] at h0 h1 h2 h3 h4 h5 h6 h7
  omega

theorem keyOf_inj : ∀ {ws ws' : List Int}, ws.length = ws'.length → (∀ y ∈ ws, 0 ≤ y ∧ y < 18446744073709551616) → (∀ y ∈ ws', 0 ≤ y ∧ y < 18446744073709551616) → keyOf ws = keyOf ws' → ws = ws'
  | [], [], _, _, _, _ => rfl
  | [], _ :: _, hl, _, _, _ => by simp at hl
  | _ :: _, [], hl, _, _, _ => by simp at hl
  | a :: ws, b :: ws', hl, h1, h2, h => by
    unfold keyOf at h
    rw [List.flatMap_cons, List.flatMap_cons] at h
    obtain ⟨e1, e2⟩ := List.append_inj h (by simp [bytesOf])
    rw [bytesOf_inj (h1 a (by simp)) (h2 b (by simp)) e1, keyOf_inj (by simpa using hl) (fun y hy => h1 y (by simp [hy])) (fun y hy => h2 y (by simp [hy])) e2]

theorem keyOf_range (ws : List Int) : ∀ y ∈ keyOf ws, 0 ≤ y ∧ y < 256 := by
  intro y hy
  unfold keyOf bytesOf at hy
  simp only [List.mem_flatMap, List.mem_map] at hy
  obtain ⟨_, _, _, _, rfl⟩ := hy
  omega

theorem keyB_inj {ws ws' : List Int} (hl : ws.length = ws'.length) (h1 : ∀ y ∈ ws, 0 ≤ y ∧ y < 18446744073709551616) (h2 : ∀ y ∈ ws', 0 ≤ y ∧ y < 18446744073709551616) (h : keyB ws = keyB ws') : ws = ws' := by
  refine keyOf_inj hl h1 h2 ?_
  unfold keyB at h
  rw [strOfNums_data, strOfNums_data] at h
  have hlen : (keyOf ws).length = (keyOf ws').length := by simpa using congrArg List.length h
  refine List.ext_getElem hlen (fun i hi hi' => ?_)
  have r1 := keyOf_range ws _ (List.getElem_mem hi)
  have r2 := keyOf_range ws' _ (List.getElem_mem hi')
  have e : UInt8.ofNat (keyOf ws)[i].toNat = UInt8.ofNat (keyOf ws')[i].toNat := by
    have := congrArg (fun l => l[i]?) h
    simpa [hi, hi'] using this
  have e2 := congrArg UInt8.toNat e
  simp only [UInt8.toNat_ofNat'] at e2
  omega

/-- Two lists of members have one text just if they name the same numbers. -/
theorem keyB_bitsOf (n : Nat) (xs ys : List Int) (hx : ∀ x ∈ xs, 0 ≤ x ∧ x < (n : Int)) (hy : ∀ x ∈ ys, 0 ≤ x ∧ x < (n : Int)) : keyB (bitsOf n xs) = keyB (bitsOf n ys) ↔ ∀ z, z ∈ xs ↔ z ∈ ys := by
  constructor
  · intro h
    have e := keyB_inj (by rw [bitsOf_length, bitsOf_length]) (bitsOf_range n xs) (bitsOf_range n ys) h
    intro z
    have key : ∀ q : Nat, ((q : Int) ∈ xs ↔ (q : Int) ∈ ys) := fun q => by
      have h1 := memb_bitsOf n xs hx q
      have h2 := memb_bitsOf n ys hy q
      rw [e, h2] at h1
      simpa using h1.symm
    constructor
    · intro hz
      obtain ⟨q, rfl⟩ := Int.eq_ofNat_of_zero_le (hx z hz).1
      exact (key q).1 hz
    · intro hz
      obtain ⟨q, rfl⟩ := Int.eq_ofNat_of_zero_le (hy z hz).1
      exact (key q).2 hz
  · intro h
    have e : bitsOf n xs = bitsOf n ys := words_ext (by rw [bitsOf_length, bitsOf_length]) (bitsOf_range n xs) (bitsOf_range n ys) (fun q => by
      rw [memb_bitsOf n xs hx, memb_bitsOf n ys hy, decide_eq_decide]; exact h q)
    rw [e]

theorem firstBad_ok {n : Nat} {xs : List Int} (h : ∀ x ∈ xs, 0 ≤ x ∧ x < (n : Int)) : firstBad n xs = none := firstBad_none (fun _ x hj => h x (List.mem_of_getElem? hj))
theorem mem_members {n : Nat} {ws : List Int} {z : Int} : z ∈ members n ws ↔ ∃ q : Nat, q < n ∧ memb ws q = true ∧ (q : Int) = z := by
  unfold members
  simp only [List.mem_map, List.mem_filter, List.mem_range]
  constructor
  · rintro ⟨q, ⟨h1, h2⟩, h3⟩; exact ⟨q, h1, h2, h3⟩
  · rintro ⟨q, h1, h2, h3⟩; exact ⟨q, ⟨h1, h2⟩, h3⟩
theorem members_range {n : Nat} {ws : List Int} : ∀ z ∈ members n ws, 0 ≤ z ∧ z < (n : Int) := by
  intro z hz
  obtain ⟨q, h1, _, rfl⟩ := mem_members.1 hz
  omega
theorem mem_members_bitsOf {n : Nat} {xs : List Int} (hx : ∀ x ∈ xs, 0 ≤ x ∧ x < (n : Int)) {z : Int} : z ∈ members n (bitsOf n xs) ↔ z ∈ xs := by
  rw [mem_members]
  constructor
  · rintro ⟨q, _, h2, rfl⟩
    rw [memb_bitsOf n xs hx] at h2
    simpa using h2
  · intro hz
    have := hx z hz
    obtain ⟨q, rfl⟩ := Int.eq_ofNat_of_zero_le this.1
    exact ⟨q, by omega, by rw [memb_bitsOf n xs hx]; simpa using hz, rfl⟩
end Go.Proofs.YtapebbejdgeijaaDoor
