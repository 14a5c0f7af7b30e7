/- Plain: the digits of a window's number. -/
import Derived.Test.YtapebbejdgeijaaDoorFormP
namespace Go.Proofs.YtapebbejdgeijaaDoor

/-- The n digits of i to the base k, the greatest first. -/
def digs (k : Nat) : Nat → Nat → List Nat
  | 0, _ => []
  | n + 1, i => (i / k ^ n) % k :: digs k n i
def num (k : Nat) (ds : List Nat) : Nat := ds.foldl (fun n d => n * k + d) 0

theorem digs_length (k : Nat) : ∀ n i, (digs k n i).length = n
  | 0, _ => rfl
  | n + 1, i => by rw [digs, List.length_cons, digs_length]
theorem digs_lt {k : Nat} (hk : 0 < k) : ∀ n i, ∀ d ∈ digs k n i, d < k
  | 0, _, d, h => by cases h
  | n + 1, i, d, h => by
    rcases List.mem_cons.1 h with h | h
    · rw [h]; exact Nat.mod_lt _ hk
    · exact digs_lt hk n i d h
theorem foldl_num (k : Nat) : ∀ (ds : List Nat) (a : Nat), ds.foldl (fun n d => n * k + d) a = a * k ^ ds.length + num k ds
  | [], a => by simp [num]
  | d :: ds, a => by
    unfold num
    rw [List.foldl_cons, List.foldl_cons, foldl_num k ds, foldl_num k ds (0 * k + d), List.length_cons, Nat.pow_succ]
    rw [Nat.add_mul, Nat.zero_mul, Nat.zero_add, Nat.mul_assoc, Nat.mul_comm k, Nat.add_assoc]
theorem num_cons (k d : Nat) (ds : List Nat) : num k (d :: ds) = d * k ^ ds.length + num k ds := by
  rw [num, List.foldl_cons, foldl_num, Nat.zero_mul, Nat.zero_add]
theorem num_snoc (k d : Nat) (ds : List Nat) : num k (ds ++ [d]) = num k ds * k + d := by
  rw [num, List.foldl_append]; rfl
theorem num_digs (k : Nat) : ∀ n i, num k (digs k n i) = i % k ^ n
  | 0, i => by simp [digs, num, Nat.mod_one]
  | n + 1, i => by
    rw [digs, num_cons, digs_length, num_digs k n i, Nat.pow_succ, Nat.mod_mul, Nat.add_comm, Nat.mul_comm]
theorem num_lt {k : Nat} (hk : 0 < k) : ∀ (ds : List Nat), (∀ d ∈ ds, d < k) → num k ds < k ^ ds.length
  | [], _ => by simp [num]
  | d :: ds, h => by
    rw [num_cons, List.length_cons, Nat.pow_succ]
    have h1 := num_lt hk ds fun x hx => h x (List.mem_cons_of_mem _ hx)
    have h2 : d + 1 ≤ k := h d List.mem_cons_self
    have h3 : (d + 1) * k ^ ds.length ≤ k * k ^ ds.length := Nat.mul_le_mul_right _ h2
    rw [Nat.add_mul, Nat.one_mul] at h3
    rw [Nat.mul_comm (k ^ ds.length)]
    omega
theorem digs_drop (k : Nat) : ∀ a n i, (digs k (a + n) i).drop a = digs k n i
  | 0, n, i => by rw [Nat.zero_add]; rfl
  | a + 1, n, i => by
    rw [show a + 1 + n = (a + n) + 1 by omega, digs, List.drop_succ_cons, digs_drop]
theorem digs_take (k : Nat) : ∀ a b i, (digs k (a + b) i).take a = digs k a (i / k ^ b)
  | 0, _, _ => rfl
  | a + 1, b, i => by
    rw [show a + 1 + b = (a + b) + 1 by omega, digs, List.take_succ_cons, digs_take k a b i, digs, Nat.div_div_eq_div_mul, ← Nat.pow_add, Nat.add_comm b a]
/-- The middle of a window. -/
theorem digs_mid (k d n i : Nat) : ((digs k (n + 2 * d) i).drop d).take n = digs k n (i / k ^ d) := by
  rw [show n + 2 * d = d + (n + d) by omega, digs_drop, digs_take]
theorem pow_small {k n m : Nat} (hk : k ≤ 4) (h1 : 1 ≤ k) (hn : n ≤ m) (hm : m ≤ 8) : k ^ n ≤ 65536 :=
  Nat.le_trans (Nat.pow_le_pow_right h1 (Nat.le_trans hn hm)) (Nat.pow_le_pow_left hk 8)
theorem num_small {k : Nat} (hk : k ≤ 4) (h1 : 1 ≤ k) {ds : List Nat} (hd : ∀ d ∈ ds, d < k) (hl : ds.length ≤ 8) : num k ds ≤ 65536 :=
  Nat.le_trans (Nat.le_of_lt (num_lt h1 ds hd)) (pow_small hk h1 hl (Nat.le_refl _))
theorem num_take_succ (k : Nat) (ds : List Nat) (j : Nat) (d : Nat) (h : ds[j]? = some d) : num k (ds.take (j + 1)) = num k (ds.take j) * k + d := by
  obtain ⟨hj, rfl⟩ := List.getElem?_eq_some_iff.1 h
  rw [List.take_succ_eq_append_getElem hj, num_snoc]
/-- One digit more is laid ahead. -/
theorem digs_step (k n j i : Nat) (ys : List Nat) (hl : ys.length = n) (hj : j < n) (h : ys.drop (n - j) = digs k j i) : (ys.set (n - 1 - j) ((i / k ^ j) % k)).drop (n - (j + 1)) = digs k (j + 1) i := by
  rw [show n - 1 - j = n - (j + 1) by omega]
  rw [List.drop_eq_getElem_cons (by rw [List.length_set]; omega)]
  rw [List.getElem_set_self, digs]
  congr 1
  rw [List.drop_set_of_lt (by omega), show n - (j + 1) + 1 = n - j by omega, h]
def mirrorT (k R : Nat) (T : List Int) : List Int := (List.range (sz k R)).map fun i => T.getD (num k (digs k (2 * R + 1) i).reverse) 0
end Go.Proofs.YtapebbejdgeijaaDoor
