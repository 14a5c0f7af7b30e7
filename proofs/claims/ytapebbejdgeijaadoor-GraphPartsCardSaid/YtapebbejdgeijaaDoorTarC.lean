/- Plain laws: what can be reached from marked vertices (a stack); how far vertices are (a queue); arrows turned. -/
import Derived.Test.YtapebbejdgeijaaDoorTarB
namespace Go.Proofs.YtapebbejdgeijaaDoor.Tar
variable {g : Nat → List Nat} {n : Nat}

/-! ### marks and a stack -/
def cntF (o : Nat → Bool) (n : Nat) : Nat := sumN (fun v => if o v then 0 else 1) n
theorem cntF_upd {o : Nat → Bool} {n t : Nat} (ht : o t = false) (htn : t < n) : cntF (upd o t true) n + 1 = cntF o n := by
  have := sumN_upd (fun v => if o v then 0 else 1) (fun v => if upd o t true v then 0 else 1) t n htn (fun j hj => by simp [upd, hj])
  simp [ht] at this
  exact this

/-- The marks o and the stack q on the way from the marks mk; v's first k arrows are gone through (v none: between two). -/
structure Mark (g : Nat → List Nat) (n : Nat) (mk o : Nat → Bool) (q : List Nat) (v : Option Nat) (k : Nat) : Prop where
  sound : ∀ t, o t = true → ∃ u, mk u = true ∧ Reach (Arr g) u t
  base : ∀ u, u < n → mk u = true → o u = true
  stk : ∀ x, x ∈ q → o x = true ∧ x < n
  cur : ∀ x, v = some x → o x = true ∧ x < n ∧ ∀ t ∈ (g x).take k, o t = true
  don : ∀ x, o x = true → x < n → x ∉ q → v ≠ some x → ∀ t ∈ g x, o t = true
  len : q.length + cntF o n ≤ n

variable {mk o : Nat → Bool} {q : List Nat} {k v : Nat}
theorem Mark.pop (h : Mark g n mk o (v :: q) none k) : Mark g n mk o q (some v) 0 := by
  refine ⟨h.sound, h.base, fun x hx => h.stk x (by simp [hx]), fun x hx => ?_, fun x hx hxn hq hv => ?_, ?_⟩
  · cases hx
    have := h.stk v (by simp)
    exact ⟨this.1, this.2, by simp⟩
  · exact h.don x hx hxn (by simp; exact ⟨fun e => hv (by rw [e]), hq⟩) (by simp)
  · have := h.len; simp at this; omega
theorem Mark.push (h : Mark g n mk o q (some v) k) {t : Nat} (ht : (g v)[k]? = some t) (htn : t < n) (hf : o t = false) : Mark g n mk (upd o t true) (t :: q) (some v) (k + 1) := by
  have hu : ∀ x, upd o t true x = true ↔ x = t ∨ o x = true := fun x => by unfold upd; split <;> simp_all
  have hv := h.cur v rfl
  refine ⟨fun x hx => ?_, fun u hun hmu => (hu u).2 (.inr (h.base u hun hmu)), fun x hx => ?_, fun x hx => ?_, fun x hx hxn hq hne y hy => ?_, ?_⟩
  · rcases (hu x).1 hx with rfl | hx
    · obtain ⟨u, h1, h2⟩ := h.sound v hv.1
      exact ⟨u, h1, .step h2 (mem_at ht)⟩
    · exact h.sound x hx
  · rw [hu]
    rw [List.mem_cons] at hx
    rcases hx with rfl | hx
    · exact ⟨.inl rfl, htn⟩
    · exact ⟨.inr (h.stk x hx).1, (h.stk x hx).2⟩
  · cases hx
    refine ⟨(hu v).2 (.inr hv.1), hv.2.1, fun y hy => (hu y).2 ?_⟩
    rcases (take_more ht).1 hy with h1 | h1
    · exact .inr (hv.2.2 y h1)
    · exact .inl h1
  · rw [hu] at hx ⊢
    rw [List.mem_cons, not_or] at hq
    rcases hx with rfl | hx
    · exact absurd rfl hq.1
    · exact .inr (h.don x hx hxn hq.2 hne y hy)
  · have := cntF_upd hf htn; have := h.len; simp; omega
theorem Mark.skip (h : Mark g n mk o q (some v) k) {t : Nat} (ht : (g v)[k]? = some t) (hf : o t = true) : Mark g n mk o q (some v) (k + 1) := by
  refine ⟨h.sound, h.base, h.stk, fun x hx => ?_, h.don, h.len⟩
  cases hx
  have hv := h.cur v rfl
  refine ⟨hv.1, hv.2.1, fun y hy => ?_⟩
  rcases (take_more ht).1 hy with h1 | rfl
  · exact hv.2.2 y h1
  · exact hf
theorem Mark.done (h : Mark g n mk o q (some v) k) (hk : (g v).length ≤ k) : Mark g n mk o q none 0 := by
  refine ⟨h.sound, h.base, h.stk, fun x hx => (by cases hx), fun x hx hxn hq _ => ?_, h.len⟩
  by_cases hxv : x = v
  · subst hxv
    intro t ht
    exact (h.cur x rfl).2.2 t (by rw [List.take_of_length_le hk]; exact ht)
  · exact h.don x hx hxn hq (fun e => hxv (Option.some.inj e).symm)
/-- With an empty stack: just what can be reached. -/
theorem Mark.end_ (h : Mark g n mk o [] none k) (hg : ∀ v, ∀ t ∈ g v, t < n) (hmk : ∀ u, mk u = true → u < n) (t : Nat) : o t = true ↔ ∃ u, mk u = true ∧ Reach (Arr g) u t := by
  refine ⟨h.sound t, fun ⟨u, hu, hr⟩ => ?_⟩
  have : ∀ t, Reach (Arr g) u t → o t = true ∧ t < n := by
    intro t hr
    induction hr with
    | refl => exact ⟨h.base u (hmk u hu) hu, hmk u hu⟩
    | step _ e ih => exact ⟨h.don _ ih.1 ih.2 (by simp) (by simp) _ e, hg _ _ e⟩
  exact (this t hr).1

theorem filter_cntF (mk : Nat → Bool) : ∀ n, ((List.range n).filter mk).length + cntF mk n = n
  | 0 => rfl
  | n + 1 => by
    have h := filter_cntF mk n
    unfold cntF at h ⊢
    simp only [sumN]
    rw [List.range_succ, List.filter_append, List.length_append]
    cases hm : mk n <;> simp [hm] <;> omega
theorem Mark.start (mk : Nat → Bool) : Mark g n mk mk ((List.range n).filter mk).reverse none 0 := by
  refine ⟨fun t ht => ⟨t, ht, .refl _⟩, fun u _ h => h, fun x hx => ?_, fun x hx => (by cases hx), fun x hx hxn hq => ?_, ?_⟩
  · rw [List.mem_reverse, List.mem_filter, List.mem_range] at hx
    exact ⟨hx.2, hx.1⟩
  · rw [List.mem_reverse, List.mem_filter, List.mem_range] at hq
    exact absurd ⟨hxn, hx⟩ hq
  · rw [List.length_reverse]
    exact Nat.le_of_eq (filter_cntF mk n)

/-! ### the arrows turned -/
def sel (w t : Nat) (l : List Nat) : List Nat := (l.filter (fun x => x == t)).map fun _ => w
/-- What leads to t from the vertices below m, one for each arrow. -/
def turn (g : Nat → List Nat) : Nat → Nat → List Nat
  | 0, _ => []
  | m + 1, t => turn g m t ++ sel m t (g m)
theorem mem_sel {w t x : Nat} {l : List Nat} : x ∈ sel w t l ↔ x = w ∧ t ∈ l := by
  simp [sel]
  constructor
  · rintro ⟨h, rfl⟩; exact ⟨rfl, h⟩
  · rintro ⟨rfl, h⟩; exact ⟨h, rfl⟩
theorem mem_turn (t x : Nat) : ∀ m, x ∈ turn g m t ↔ x < m ∧ t ∈ g x
  | 0 => by simp [turn]
  | m + 1 => by
    simp only [turn, List.mem_append, mem_turn t x m, mem_sel]
    constructor
    · rintro (⟨h1, h2⟩ | ⟨rfl, h2⟩)
      · exact ⟨by omega, h2⟩
      · exact ⟨by omega, h2⟩
    · rintro ⟨h1, h2⟩
      by_cases h : x = m
      · exact .inr ⟨h, h ▸ h2⟩
      · exact .inl ⟨by omega, h2⟩
theorem count_sel (w t x : Nat) (l : List Nat) : (sel w t l).count x = if x = w then l.count t else 0 := by
  unfold sel
  induction l with
  | nil => simp
  | cons a l ih =>
    rw [List.filter_cons]
    split
    · rename_i h
      rw [List.map_cons, List.count_cons, ih]
      have : a = t := by simpa using h
      subst this
      rw [List.count_cons_self]
      by_cases hx : x = w
      · simp [hx]
      · have hx' : ¬ w = x := fun e => hx e.symm
        simp [hx, hx']
    · rename_i h
      rw [ih]
      have : ¬ a = t := by simpa using h
      simp [this]
theorem count_turn (t x : Nat) : ∀ m, (turn g m t).count x = if x < m then (g x).count t else 0
  | 0 => by simp [turn]
  | m + 1 => by
    simp only [turn, List.count_append, count_turn t x m, count_sel]
    by_cases h : x = m
    · subst h; simp
    · by_cases h2 : x < m
      · simp [h, h2, show x < m + 1 by omega]
      · simp [h, h2, show ¬ x < m + 1 by omega]
theorem sel_take_succ {w t k x : Nat} {l : List Nat} (h : l[k]? = some x) : sel w t (l.take (k + 1)) = if x = t then sel w t (l.take k) ++ [w] else sel w t (l.take k) := by
  obtain ⟨hk, rfl⟩ := List.getElem?_eq_some_iff.1 h
  rw [List.take_succ_eq_append_getElem hk]
  unfold sel
  rw [List.filter_append, List.map_append]
  split
  · rename_i e; simp [e]
  · rename_i e; simp [e]
theorem turn_reach (hg : ∀ v, n ≤ v → g v = []) {a b : Nat} : Reach (Arr (turn g n)) a b ↔ Reach (Arr g) b a := by
  have e : ∀ a b, Arr (turn g n) a b ↔ Arr g b a := fun a b => by
    show b ∈ turn g n a ↔ a ∈ g b
    rw [mem_turn]
    exact ⟨fun h => h.2, fun h => ⟨Nat.lt_of_not_le fun hh => (by rw [hg b hh] at h; cases h), h⟩⟩
  constructor
  · intro h
    induction h with
    | refl => exact .refl _
    | step _ h2 ih => exact (Reach.one ((e _ _).1 h2)).trans ih
  · intro h
    induction h with
    | refl => exact .refl _
    | step _ h2 ih => exact (Reach.one ((e _ _).2 h2)).trans ih

/-! ### how far -/
/-- t is d arrows away from some vertex of S. -/
inductive Walk (g : Nat → List Nat) (S : List Nat) : Nat → Nat → Prop
  | src {a : Nat} : a ∈ S → Walk g S a 0
  | step {a b d : Nat} : Walk g S a d → b ∈ g a → Walk g S b (d + 1)
theorem Walk.reach {S : List Nat} {t d : Nat} (h : Walk g S t d) : ∃ u ∈ S, Reach (Arr g) u t := by
  induction h with
  | src h => exact ⟨_, h, .refl _⟩
  | step _ e ih => obtain ⟨u, h1, h2⟩ := ih; exact ⟨u, h1, .step h2 e⟩
theorem Walk.of_reach {S : List Nat} {u t : Nat} (hu : u ∈ S) (h : Reach (Arr g) u t) : ∃ d, Walk g S t d := by
  induction h with
  | refl => exact ⟨0, .src hu⟩
  | step _ e ih => obtain ⟨d, h⟩ := ih; exact ⟨d + 1, .step h e⟩

/-- The distances f and the queue Q; the vertices ahead of place i are gone through, and the first k arrows of that at i. -/
structure Far (g : Nat → List Nat) (n : Nat) (S : List Nat) (f : Nat → Int) (Q : List Nat) (i k : Nat) : Prop where
  mem : ∀ t, 0 ≤ f t ↔ t ∈ Q
  rng : ∀ t ∈ Q, t < n
  lo : ∀ t, -1 ≤ f t
  nd : Q.Nodup
  src : ∀ t ∈ S, f t = 0
  walk : ∀ t d, f t = (d : Nat) → Walk g S t d
  mono : Q.Pairwise (fun a b => f a ≤ f b)
  near : ∀ v t, Q[i]? = some v → t ∈ Q → f t ≤ f v + 1
  past : ∀ j v, j < i → Q[j]? = some v → ∀ t ∈ g v, 0 ≤ f t ∧ f t ≤ f v + 1
  now : ∀ v, Q[i]? = some v → ∀ t ∈ (g v).take k, 0 ≤ f t ∧ f t ≤ f v + 1

variable {S Q : List Nat} {f : Nat → Int} {i : Nat}
theorem Far.start_nil : Far g n [] (fun _ => -1) [] 0 0 := by
  constructor <;> simp
theorem Far.start_one {a : Nat} (ha : a < n) : Far g n [a] (upd (fun _ => -1) a 0) [a] 0 0 := by
  have hu : ∀ t, upd (fun _ => (-1 : Int)) a 0 t = if t = a then 0 else -1 := fun t => rfl
  refine ⟨fun t => ?_, ?_, fun t => ?_, ?_, ?_, fun t d h => ?_, ?_, fun v t hv ht => ?_, fun j v hj => by omega, fun v _ t ht => by simp at ht⟩
  · rw [hu]; split <;> simp_all
  · simp [ha]
  · rw [hu]; split <;> omega
  · simp
  · simp
  · rw [hu] at h
    split at h
    · rename_i e; subst e
      obtain rfl : d = 0 := by omega
      exact .src (by simp)
    · omega
  · simp
  · simp at hv ht; subst hv; subst ht; omega
theorem Far.skip (h : Far g n S f Q i k) {v t : Nat} (hv : Q[i]? = some v) (ht : (g v)[k]? = some t) (hf : ¬ f t < 0) : Far g n S f Q i (k + 1) := by
  refine ⟨h.mem, h.rng, h.lo, h.nd, h.src, h.walk, h.mono, h.near, h.past, fun v' hv' x hx => ?_⟩
  obtain rfl : v = v' := Option.some.inj (hv.symm.trans hv')
  rcases (take_more ht).1 hx with h1 | rfl
  · exact h.now v hv x h1
  · exact ⟨by omega, h.near v x hv ((h.mem x).1 (by omega))⟩
theorem Far.push (h : Far g n S f Q i k) {v t : Nat} (hv : Q[i]? = some v) (ht : (g v)[k]? = some t) (htn : t < n) (hf : f t < 0) : Far g n S (upd f t (f v + 1)) (Q ++ [t]) i (k + 1) := by
  have hil := (List.getElem?_eq_some_iff.1 hv).1
  have htQ : t ∉ Q := fun hh => by have := (h.mem t).2 hh; omega
  have hvQ : v ∈ Q := List.mem_of_getElem? hv
  have hv0 : 0 ≤ f v := (h.mem v).2 hvQ
  have hu : ∀ x, upd f t (f v + 1) x = if x = t then f v + 1 else f x := fun x => rfl
  have hq : ∀ x ∈ Q, upd f t (f v + 1) x = f x := fun x hx => by rw [hu, if_neg]; intro e; exact htQ (e ▸ hx)
  have hat : ∀ j x, j < Q.length → (Q ++ [t])[j]? = some x → Q[j]? = some x := fun j x hj hx => by rw [List.getElem?_append_left hj] at hx; exact hx
  refine ⟨fun x => ?_, fun x hx => ?_, fun x => ?_, ?_, fun x hx => ?_, fun x d hd => ?_, ?_, fun v' x hv' hx => ?_, fun j v' hj hv' x hx => ?_, fun v' hv' x hx => ?_⟩
  · rw [hu, List.mem_append, List.mem_singleton, ← h.mem]
    split <;> rename_i e
    · simp [e]; omega
    · simp [e]
  · rw [List.mem_append, List.mem_singleton] at hx
    rcases hx with hx | rfl
    · exact h.rng x hx
    · exact htn
  · rw [hu]; have := h.lo x; split <;> omega
  · rw [List.nodup_append]
    refine ⟨h.nd, by simp, fun a ha b hb => ?_⟩
    rw [List.mem_singleton] at hb
    subst hb
    intro e
    exact htQ (e ▸ ha)
  · have := h.src x hx
    rw [hu, if_neg]; exact this
    intro e; subst e; omega
  · rw [hu] at hd
    split at hd
    · rename_i e; subst e
      have e2 : f v = ((f v).toNat : Int) := by omega
      obtain rfl : d = (f v).toNat + 1 := by omega
      exact .step (h.walk v _ e2) (mem_at ht)
    · exact h.walk x d hd
  · rw [List.pairwise_append]
    refine ⟨h.mono.imp_of_mem fun {a b} ha hb hab => by rw [hq a ha, hq b hb]; exact hab, by simp, fun a ha b hb => ?_⟩
    rw [List.mem_singleton] at hb
    subst hb
    rw [hq a ha, hu, if_pos rfl]
    exact h.near v a hv ha
  · obtain rfl : v = v' := Option.some.inj (hv.symm.trans (hat i v' hil hv'))
    rw [List.mem_append, List.mem_singleton] at hx
    rw [hq v hvQ]
    rcases hx with hx | rfl
    · rw [hq x hx]; exact h.near v x hv hx
    · rw [hu, if_pos rfl]; omega
  · have h1 := hat j v' (by omega) hv'
    have h2 := h.past j v' hj h1 x hx
    rw [hq v' (List.mem_of_getElem? h1), hq x ((h.mem x).1 h2.1)]
    exact h2
  · obtain rfl : v = v' := Option.some.inj (hv.symm.trans (hat i v' hil hv'))
    rw [hq v hvQ]
    rcases (take_more ht).1 hx with h1 | rfl
    · have h2 := h.now v hv x h1
      rw [hq x ((h.mem x).1 h2.1)]; exact h2
    · rw [hu, if_pos rfl]; omega
theorem Far.next (h : Far g n S f Q i k) {v : Nat} (hv : Q[i]? = some v) (hk : (g v).length ≤ k) : Far g n S f Q (i + 1) 0 := by
  refine ⟨h.mem, h.rng, h.lo, h.nd, h.src, h.walk, h.mono, fun v' t hv' ht => ?_, fun j v' hj hv' => ?_, fun _ _ t ht => by simp at ht⟩
  · have h1 := h.near v t hv ht
    have h2 := h.mono
    rw [List.pairwise_iff_getElem] at h2
    obtain ⟨a1, a2⟩ := List.getElem?_eq_some_iff.1 hv
    obtain ⟨b1, b2⟩ := List.getElem?_eq_some_iff.1 hv'
    have := h2 i (i + 1) a1 b1 (by omega)
    rw [a2, b2] at this
    omega
  · by_cases hji : j = i
    · subst hji
      obtain rfl : v = v' := Option.some.inj (hv.symm.trans hv')
      intro t ht
      exact h.now v hv t (by rw [List.take_of_length_le hk]; exact ht)
    · exact h.past j v' (by omega) hv'
/-- At the queue's end: the exact distances. -/
theorem Far.end_ (h : Far g n S f Q i k) (hi : Q.length ≤ i) : (∀ t d, f t = (d : Nat) → Walk g S t d) ∧ (∀ t d, Walk g S t d → 0 ≤ f t ∧ f t ≤ d) := by
  refine ⟨h.walk, fun t d hw => ?_⟩
  induction hw with
  | src hs => have := h.src _ hs; omega
  | @step a b d _ e ih =>
    obtain ⟨j, hj⟩ := List.getElem?_of_mem ((h.mem a).1 ih.1)
    have := h.past j a (by have := (List.getElem?_eq_some_iff.1 hj).1; omega) hj b e
    omega
theorem Far.reach (h : Far g n S f Q i k) (hi : Q.length ≤ i) (t : Nat) : 0 ≤ f t ↔ ∃ u ∈ S, Reach (Arr g) u t := by
  obtain ⟨h1, h2⟩ := h.end_ hi
  constructor
  · intro ht
    exact (h1 t (f t).toNat (by omega)).reach
  · rintro ⟨u, hu, hr⟩
    obtain ⟨d, hd⟩ := Walk.of_reach hu hr
    exact (h2 t d hd).1
/-- The queue holds no more than n. -/
theorem nodup_len : ∀ {n : Nat} {Q : List Nat}, Q.Nodup → (∀ t ∈ Q, t < n) → Q.length ≤ n
  | 0, Q, _, hr => by
    cases Q with
    | nil => simp
    | cons a l => have := hr a (by simp); omega
  | n + 1, Q, hn, hr => by
    by_cases hm : n ∈ Q
    · have h1 := nodup_len (n := n) (hn.erase n) (fun t ht => by
        have h2 := (hn.mem_erase_iff).1 ht
        have := hr t h2.2
        have := h2.1
        omega)
      rw [List.length_erase_of_mem hm] at h1
      omega
    · have h1 := nodup_len (n := n) hn (fun t ht => by
        have := hr t ht
        have : t ≠ n := fun e => hm (e ▸ ht)
        omega)
      omega
end Go.Proofs.YtapebbejdgeijaaDoor.Tar
