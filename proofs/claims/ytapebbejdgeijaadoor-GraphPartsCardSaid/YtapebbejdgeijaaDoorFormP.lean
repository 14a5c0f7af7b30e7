/- Plain: tables of rules: wider, narrower, the narrowest. -/
import Derived.Test.YtapebbejdgeijaaDoorBase
namespace Go.Proofs.YtapebbejdgeijaaDoor

def sz (k R : Nat) : Nat := k ^ (2 * R + 1)
def widenT (k R R' : Nat) (T : List Int) : List Int := (List.range (sz k R')).map fun i => T.getD ((i / k ^ (R' - R)) % sz k R) 0
def innerT (k R : Nat) (T : List Int) : List Int := (List.range (sz k R)).map fun i => T.getD (i * k) 0
def narrowT (k : Nat) : Nat → List Int → Nat × List Int
  | 0, T => (0, T)
  | R + 1, T => if widenT k R (R + 1) (innerT k R T) = T then narrowT k R (innerT k R T) else (R + 1, T)

theorem sz_pos {k : Nat} (hk : 0 < k) (R : Nat) : 0 < sz k R := Nat.pow_pos hk
theorem sz_succ (k R : Nat) : sz k (R + 1) = sz k R * k * k := by
  unfold sz
  rw [show 2 * (R + 1) + 1 = 2 * R + 1 + 1 + 1 by omega, Nat.pow_succ, Nat.pow_succ]
theorem widenT_length (k R R' : Nat) (T : List Int) : (widenT k R R' T).length = sz k R' := by simp [widenT]
theorem innerT_length (k R : Nat) (T : List Int) : (innerT k R T).length = sz k R := by simp [innerT]
theorem getD_range_map (f : Nat → Int) {n i : Nat} (h : i < n) : ((List.range n).map f).getD i 0 = f i := by
  rw [List.getD_eq_getElem?_getD, List.getElem?_map, List.getElem?_range h]; rfl
theorem widenT_self {k R : Nat} {T : List Int} (hT : T.length = sz k R) : widenT k R R T = T := by
  apply List.ext_getElem
  · rw [widenT_length, hT]
  · intro i h1 h2
    simp only [widenT, Nat.sub_self, Nat.pow_zero, Nat.div_one, List.getElem_map, List.getElem_range]
    rw [Nat.mod_eq_of_lt (by omega), List.getD_eq_getElem?_getD, List.getElem?_eq_getElem h2]; rfl
theorem inner_widen {k R R' : Nat} {T : List Int} (hk : 0 < k) (h : R ≤ R') : innerT k R' (widenT k R (R' + 1) T) = widenT k R R' T := by
  unfold innerT
  rw [show widenT k R R' T = (List.range (sz k R')).map fun i => T.getD ((i / k ^ (R' - R)) % sz k R) 0 from rfl]
  refine List.map_congr_left fun i hi => ?_
  have hi' : i < sz k R' := List.mem_range.1 hi
  have h1 : i * k < sz k (R' + 1) := by
    rw [sz_succ]
    exact Nat.lt_of_lt_of_le (Nat.mul_lt_mul_of_pos_right hi' hk) (Nat.le_mul_of_pos_right _ hk)
  unfold widenT
  rw [getD_range_map _ h1, show R' + 1 - R = (R' - R) + 1 by omega, Nat.pow_succ, Nat.mul_div_mul_right _ _ hk]
theorem widen_widen {k R R' : Nat} {T : List Int} (hk : 0 < k) (h : R ≤ R') : widenT k R' (R' + 1) (widenT k R R' T) = widenT k R (R' + 1) T := by
  rw [show widenT k R' (R' + 1) (widenT k R R' T) = (List.range (sz k (R' + 1))).map fun i => (widenT k R R' T).getD ((i / k ^ (R' + 1 - R')) % sz k R') 0 from rfl]
  rw [show widenT k R (R' + 1) T = (List.range (sz k (R' + 1))).map fun i => T.getD ((i / k ^ (R' + 1 - R)) % sz k R) 0 from rfl]
  refine List.map_congr_left fun i _ => ?_
  rw [show widenT k R R' T = (List.range (sz k R')).map fun i => T.getD ((i / k ^ (R' - R)) % sz k R) 0 from rfl]
  rw [getD_range_map _ (Nat.mod_lt _ (sz_pos hk _))]
  have e1 : sz k R' = k ^ (R' - R) * (sz k R * k ^ (R' - R)) := by
    unfold sz
    rw [← Nat.pow_add, ← Nat.pow_add]
    congr 1; omega
  rw [e1, Nat.mod_mul_right_div_self, Nat.mod_mul_right_mod, show R' + 1 - R' = 1 by omega, Nat.pow_one, Nat.div_div_eq_div_mul, show R' + 1 - R = (R' - R) + 1 by omega, Nat.pow_succ, Nat.mul_comm k]
theorem narrow_widen {k : Nat} (hk : 0 < k) {R : Nat} {T : List Int} (hT : T.length = sz k R) : ∀ d : Nat, narrowT k (R + d) (widenT k R (R + d) T) = narrowT k R T
  | 0 => by rw [Nat.add_zero, widenT_self hT]
  | d + 1 => by
    rw [← Nat.add_assoc]
    rw [show narrowT k (R + d + 1) (widenT k R (R + d + 1) T) = if widenT k (R + d) (R + d + 1) (innerT k (R + d) (widenT k R (R + d + 1) T)) = widenT k R (R + d + 1) T then narrowT k (R + d) (innerT k (R + d) (widenT k R (R + d + 1) T)) else (R + d + 1, widenT k R (R + d + 1) T) from rfl]
    rw [inner_widen hk (Nat.le_add_right _ _), widen_widen hk (Nat.le_add_right _ _), if_pos rfl]
    exact narrow_widen hk hT d
theorem narrow_idem (k : Nat) : ∀ (R : Nat) (T : List Int), narrowT k (narrowT k R T).1 (narrowT k R T).2 = narrowT k R T
  | 0, _ => rfl
  | R + 1, T => by
    by_cases h : widenT k R (R + 1) (innerT k R T) = T
    · rw [show narrowT k (R + 1) T = narrowT k R (innerT k R T) from if_pos h]
      exact narrow_idem k R _
    · rw [show narrowT k (R + 1) T = (R + 1, T) from if_neg h]
      exact if_neg h
theorem narrow_le (k : Nat) : ∀ (R : Nat) (T : List Int), (narrowT k R T).1 ≤ R
  | 0, _ => Nat.le_refl _
  | R + 1, T => by
    by_cases h : widenT k R (R + 1) (innerT k R T) = T
    · rw [show narrowT k (R + 1) T = narrowT k R (innerT k R T) from if_pos h]
      exact Nat.le_succ_of_le (narrow_le k R _)
    · rw [show narrowT k (R + 1) T = (R + 1, T) from if_neg h]
      exact Nat.le_refl _
theorem getD_mem_or (T : List Int) (i : Nat) : T.getD i 0 = 0 ∨ T.getD i 0 ∈ T := by
  rw [List.getD_eq_getElem?_getD]
  cases h : T[i]? with
  | none => exact .inl rfl
  | some x => exact .inr (List.mem_of_getElem? h)
theorem innerT_range {k R : Nat} {T : List Int} (hk : 0 < k) (h : ∀ x ∈ T, 0 ≤ x ∧ x < (k : Int)) : ∀ x ∈ innerT k R T, 0 ≤ x ∧ x < (k : Int) := by
  intro x hx
  obtain ⟨i, _, rfl⟩ := List.mem_map.1 hx
  rcases getD_mem_or T (i * k) with e | e
  · rw [e]; omega
  · exact h _ e
theorem widenT_range {k R R' : Nat} {T : List Int} (hk : 0 < k) (h : ∀ x ∈ T, 0 ≤ x ∧ x < (k : Int)) : ∀ x ∈ widenT k R R' T, 0 ≤ x ∧ x < (k : Int) := by
  intro x hx
  obtain ⟨i, _, rfl⟩ := List.mem_map.1 hx
  rcases getD_mem_or T ((i / k ^ (R' - R)) % sz k R) with e | e
  · rw [e]; omega
  · exact h _ e
theorem narrow_ok {k : Nat} (hk : 0 < k) : ∀ (R : Nat) (T : List Int), T.length = sz k R → (∀ x ∈ T, 0 ≤ x ∧ x < (k : Int)) → (narrowT k R T).2.length = sz k (narrowT k R T).1 ∧ ∀ x ∈ (narrowT k R T).2, 0 ≤ x ∧ x < (k : Int)
  | 0, _, h1, h2 => ⟨h1, h2⟩
  | R + 1, T, h1, h2 => by
    by_cases h : widenT k R (R + 1) (innerT k R T) = T
    · rw [show narrowT k (R + 1) T = narrowT k R (innerT k R T) from if_pos h]
      exact narrow_ok hk R _ (innerT_length _ _ _) (innerT_range hk h2)
    · rw [show narrowT k (R + 1) T = (R + 1, T) from if_neg h]
      exact ⟨h1, h2⟩
end Go.Proofs.YtapebbejdgeijaaDoor
