/- BagFull. -/
import Derived.Test.YtapebbejdgeijaaDoorBagF
namespace Go.Proofs.YtapebbejdgeijaaDoor
open Go.RowKit Go.Extern.Stop Go.Stop Go.Extern Go.Deep

def blist (i k : Nat) : List Int := ((List.range k).filter fun q => i.testBit q).map fun (q : Nat) => (q : Int)
theorem blist_snoc (i k : Nat) : blist i (k + 1) = blist i k ++ (if i.testBit k then [(k : Int)] else []) := by
  unfold blist
  rw [List.range_succ, List.filter_append, List.map_append]
  congr 1
  by_cases h : i.testBit k = true <;> simp [h]
theorem blist_length (i k : Nat) : (blist i k).length ≤ k := by
  have := List.length_filter_le (fun q => i.testBit q) (List.range k); simp [blist] at this ⊢; omega
theorem mem_blist {i k : Nat} {z : Int} : z ∈ blist i k ↔ ∃ q : Nat, q < k ∧ i.testBit q = true ∧ (q : Int) = z := by
  unfold blist
  simp only [List.mem_map, List.mem_filter, List.mem_range]
  constructor
  · rintro ⟨q, ⟨h1, h2⟩, h3⟩; exact ⟨q, h1, h2, h3⟩
  · rintro ⟨q, h1, h2, h3⟩; exact ⟨q, ⟨h1, h2⟩, h3⟩
theorem blist_range (i : Nat) : ∀ z ∈ blist i 12, 0 ≤ z ∧ z < (16 : Nat) := by
  intro z hz
  obtain ⟨q, h1, _, rfl⟩ := mem_blist.1 hz
  omega
def fullSets (j : Nat) : List (List Int) := (List.range j).map fun i => bitsOf 16 (blist i 12)
theorem fullSets_snoc (j : Nat) : fullSets (j + 1) = fullSets j ++ [bitsOf 16 (blist j 12)] := by simp [fullSets, List.range_succ]
theorem fullSets_length (j : Nat) : (fullSets j).length = j := by simp [fullSets]

/-- A set of numbers below 16 is the set number i just if its members are the bits of i. -/
theorem blist_same {i j : Nat} (hi : i < 4096) (hj : j < 4096) (h : ∀ z, z ∈ blist i 12 ↔ z ∈ blist j 12) : i = j := by
  refine Nat.eq_of_testBit_eq (fun q => ?_)
  by_cases hq : q < 12
  · have := h (q : Int)
    rw [mem_blist, mem_blist] at this
    have e : ∀ i : Nat, (∃ p : Nat, p < 12 ∧ i.testBit p = true ∧ (p : Int) = (q : Int)) ↔ i.testBit q = true := fun i => ⟨fun ⟨p, _, h2, h3⟩ => by rw [← Int.ofNat_inj.1 h3]; exact h2, fun h => ⟨q, hq, h, rfl⟩⟩
    rw [e, e] at this
    cases h1 : i.testBit q <;> cases h2 : j.testBit q <;> simp_all
  · have p : (4096 : Nat) ≤ 2 ^ q := (show (4096 : Nat) = 2 ^ 12 by decide) ▸ Nat.pow_le_pow_right (by decide) (by omega)
    rw [Nat.testBit_lt_two_pow (by omega), Nat.testBit_lt_two_pow (by omega)]

theorem find_full {j : Nat} {xs : List Int} (hx : ∀ z ∈ xs, 0 ≤ z ∧ z < (16 : Nat)) : bagFind (fullSets j) (keyB (bitsOf 16 xs)) = Option.map (fun i : Nat => (i : Int)) ((List.range j).findIdx? fun i => decide (∀ z : Fin 16, ((z.val : Int) ∈ blist i 12 ↔ (z.val : Int) ∈ xs))) := by
  unfold bagFind fullSets
  rw [List.findIdx?_map]
  congr 2
  funext i
  simp only [Function.comp]
  rw [decide_eq_decide, keyB_bitsOf 16 _ _ (blist_range i) hx]
  constructor
  · intro h z; exact h _
  · intro h z
    constructor
    · intro hz
      have := blist_range i z hz
      obtain ⟨q, rfl⟩ := Int.eq_ofNat_of_zero_le this.1
      exact (h ⟨q, by omega⟩).1 hz
    · intro hz
      have := hx z hz
      obtain ⟨q, rfl⟩ := Int.eq_ofNat_of_zero_le this.1
      exact (h ⟨q, by omega⟩).2 hz

theorem find_full_some {i : Nat} {xs : List Int} (hi : i < 4096) (hx : ∀ z ∈ xs, 0 ≤ z ∧ z < (16 : Nat)) (h : ∀ z, z ∈ blist i 12 ↔ z ∈ xs) : bagFind (fullSets 4096) (keyB (bitsOf 16 xs)) = some (i : Int) := by
  rw [find_full hx, Option.map_eq_some_iff]
  refine ⟨i, ?_, rfl⟩
  rw [List.findIdx?_eq_some_iff_getElem]
  refine ⟨by simpa using hi, by simpa using fun z => h _, fun j hj => ?_⟩
  simp only [List.getElem_range, decide_eq_true_eq]
  intro hh
  have : j = i := blist_same (by omega) hi (fun z => by
    rw [h z]
    constructor
    · intro hz
      have := blist_range j z hz
      obtain ⟨q, rfl⟩ := Int.eq_ofNat_of_zero_le this.1
      exact (hh ⟨q, by omega⟩).1 hz
    · intro hz
      have := hx z hz
      obtain ⟨q, rfl⟩ := Int.eq_ofNat_of_zero_le this.1
      exact (hh ⟨q, by omega⟩).2 hz)
  omega
theorem find_full_none {j : Nat} {xs : List Int} (hx : ∀ z ∈ xs, 0 ≤ z ∧ z < (16 : Nat)) (h : ∀ i, i < j → ¬ ∀ z, z ∈ blist i 12 ↔ z ∈ xs) : bagFind (fullSets j) (keyB (bitsOf 16 xs)) = none := by
  unfold bagFind fullSets
  rw [Option.map_eq_none_iff, List.findIdx?_eq_none_iff]
  intro ws hw
  obtain ⟨i, hi, rfl⟩ := List.mem_map.1 hw
  simp only [decide_eq_false_iff_not]
  rw [keyB_bitsOf 16 _ _ (blist_range i) hx]
  exact h i (by simpa using hi)
/-- Every list of numbers below 12 is one of the 4096 sets. -/
theorem mask_exists (xs : List Int) (hx : ∀ z ∈ xs, 0 ≤ z ∧ z < (12 : Nat)) : ∃ i, i < 4096 ∧ ∀ z, z ∈ blist i 12 ↔ z ∈ xs := by
  induction xs with
  | nil => exact ⟨0, by decide, fun z => by rw [mem_blist]; simp⟩
  | cons x xs ih =>
    obtain ⟨i, hi, h⟩ := ih (fun z hz => hx z (by simp [hz]))
    have h0 := hx x (by simp)
    obtain ⟨q, rfl⟩ := Int.eq_ofNat_of_zero_le h0.1
    refine ⟨i ||| 2 ^ q, ?_, fun z => ?_⟩
    · exact Nat.or_lt_two_pow (n := 12) hi (Nat.pow_lt_pow_right (by decide) (by omega))
    · rw [List.mem_cons, ← h z, mem_blist, mem_blist]
      constructor
      · rintro ⟨p, h1, h2, rfl⟩
        rw [Nat.testBit_or, Bool.or_eq_true, Nat.testBit_two_pow] at h2
        rcases h2 with h2 | h2
        · exact .inr ⟨p, h1, h2, rfl⟩
        · simp at h2; exact .inl (by omega)
      · rintro (rfl | ⟨p, h1, h2, rfl⟩)
        · exact ⟨q, by omega, by rw [Nat.testBit_or, Nat.testBit_two_pow]; simp, rfl⟩
        · exact ⟨p, h1, by rw [Nat.testBit_or, h2]; rfl, rfl⟩
end Go.Proofs.YtapebbejdgeijaaDoor
