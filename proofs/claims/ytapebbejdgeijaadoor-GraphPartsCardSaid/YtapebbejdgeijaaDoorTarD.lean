/- Plain law: what stays if vertices without an arrow to or from them are taken away again and again is what stands on a way without ends on both sides. -/
import Derived.Test.YtapebbejdgeijaaDoorTarC
namespace Go.Proofs.YtapebbejdgeijaaDoor.Tar
variable {g : Nat → List Nat} {n : Nat}

def OnLoop (g : Nat → List Nat) (u : Nat) : Prop := ∃ t, t ∈ g u ∧ Reach (Arr g) t u
def LiveV (g : Nat → List Nat) (v : Nat) : Prop := (∃ u, OnLoop g u ∧ Reach (Arr g) u v) ∧ ∃ u, OnLoop g u ∧ Reach (Arr g) v u

theorem reach_head {a b : Nat} (h : Reach (Arr g) a b) : a = b ∨ ∃ y, y ∈ g a ∧ Reach (Arr g) y b := by
  induction h with
  | refl => exact .inl rfl
  | @step b c h e ih =>
    rcases ih with rfl | ⟨y, h1, h2⟩
    · exact .inr ⟨c, e, .refl _⟩
    · exact .inr ⟨y, h1, .step h2 e⟩
theorem reach_tail {a b : Nat} (h : Reach (Arr g) a b) : a = b ∨ ∃ w, b ∈ g w ∧ Reach (Arr g) a w := by
  cases h with
  | refl => exact .inl rfl
  | step h e => exact .inr ⟨_, e, h⟩
theorem LiveV.next {v : Nat} (h : LiveV g v) : ∃ y, y ∈ g v ∧ LiveV g y := by
  obtain ⟨⟨a, ha, har⟩, b, hb, hbr⟩ := h
  rcases reach_head hbr with rfl | ⟨y, h1, h2⟩
  · obtain ⟨t, h1, h2⟩ := hb
    exact ⟨t, h1, ⟨v, ⟨t, h1, h2⟩, .one h1⟩, v, ⟨t, h1, h2⟩, h2⟩
  · exact ⟨y, h1, ⟨a, ha, .step har h1⟩, b, hb, h2⟩
theorem LiveV.prev {v : Nat} (h : LiveV g v) : ∃ w, v ∈ g w ∧ LiveV g w := by
  obtain ⟨⟨a, ha, har⟩, b, hb, hbr⟩ := h
  rcases reach_tail har with rfl | ⟨w, h1, h2⟩
  · obtain ⟨t, h1, h2⟩ := ha
    have hl : OnLoop g a := ⟨t, h1, h2⟩
    rcases reach_tail h2 with rfl | ⟨w, h3, h4⟩
    · exact ⟨t, h1, ⟨t, hl, .refl _⟩, t, hl, .refl _⟩
    · exact ⟨w, h3, ⟨a, hl, (Reach.one h1).trans h4⟩, a, hl, .one h3⟩
  · exact ⟨w, h1, ⟨a, ha, h2⟩, b, hb, (Reach.one h1).trans hbr⟩

/-- Whoever can always go on comes to a loop. -/
theorem to_loop {P : Nat → Prop} (hP : ∀ t, P t → t < n) (hs : ∀ t, P t → ∃ y, y ∈ g t ∧ P y) (t : Nat) (ht : P t) : ∃ u, OnLoop g u ∧ Reach (Arr g) t u := by
  have hs' : ∀ x : { t // P t }, ∃ y : { t // P t }, y.1 ∈ g x.1 := fun x => by
    obtain ⟨y, h1, h2⟩ := hs x.1 x.2
    exact ⟨⟨y, h2⟩, h1⟩
  let f : { t // P t } → { t // P t } := fun x => Classical.choose (hs' x)
  have hf : ∀ x, (f x).1 ∈ g x.1 := fun x => Classical.choose_spec (hs' x)
  let it : Nat → { t // P t } := fun k => Nat.rec ⟨t, ht⟩ (fun _ x => f x) k
  have hit : ∀ k, (it (k + 1)).1 ∈ g (it k).1 := fun k => hf (it k)
  have hr : ∀ d k, Reach (Arr g) (it k).1 (it (k + d)).1 := by
    intro d
    induction d with
    | zero => intro k; exact .refl _
    | succ d ih => intro k; exact .step (ih k) (hit (k + d))
  have hno : ¬ ((List.range (n + 1)).map fun k => (it k).1).Nodup := fun hn => by
    have := nodup_len (n := n) hn (fun x hx => by
      obtain ⟨k, _, rfl⟩ := List.mem_map.1 hx
      exact hP _ (it k).2)
    simp at this
    omega
  have : ∃ i j, i < j ∧ (it i).1 = (it j).1 := by
    apply Classical.byContradiction
    intro hne
    apply hno
    show List.Pairwise (· ≠ ·) _
    rw [List.pairwise_map]
    exact List.pairwise_lt_range.imp fun {a b} hab e => hne ⟨a, b, hab, e⟩
  obtain ⟨i, j, hij, e⟩ := this
  refine ⟨(it i).1, ⟨(it (i + 1)).1, hit i, ?_⟩, ?_⟩
  · have h1 := hr (j - (i + 1)) (i + 1)
    rw [show i + 1 + (j - (i + 1)) = j by omega, ← e] at h1
    exact h1
  · have h1 := hr i 0
    rw [Nat.zero_add] at h1
    exact h1

theorem live_of_two {P : Nat → Prop} (hgn : ∀ v, n ≤ v → g v = []) (hP : ∀ t, P t → t < n) (hs : ∀ t, P t → ∃ y, y ∈ g t ∧ P y) (hb : ∀ t, P t → ∃ y, t ∈ g y ∧ P y) (t : Nat) (ht : P t) : LiveV g t := by
  refine ⟨?_, to_loop hP hs t ht⟩
  obtain ⟨u, ⟨x, h1, h2⟩, h3⟩ := to_loop (g := turn g n) hP (fun t ht => by
    obtain ⟨y, h1, h2⟩ := hb t ht
    exact ⟨y, (mem_turn t y n).2 ⟨hP y h2, h1⟩, h2⟩) t ht
  rw [turn_reach hgn] at h2 h3
  rw [mem_turn] at h1
  refine ⟨u, ?_, h3⟩
  rcases reach_head h2 with rfl | ⟨y, h4, h5⟩
  · exact ⟨u, h1.2, .refl _⟩
  · exact ⟨y, h4, h5.trans (.one h1.2)⟩

/-! ### the peeling -/
theorem countP_split {p : Nat → Bool} {v : Nat} (hv : p v = true) (l : List Nat) : l.countP p = l.count v + l.countP (fun x => p x && x != v) := by
  induction l with
  | nil => simp
  | cons a l ih =>
    rw [List.countP_cons, List.countP_cons, List.count_cons, ih]
    by_cases ha : a = v
    · subst ha; simp [hv]; omega
    · simp [ha]; split <;> omega
theorem countP_only {p : Nat → Bool} {v : Nat} (hv : p v = true) {l : List Nat} (h : l.countP p ≤ l.count v) : ∀ x ∈ l, p x = true → x = v := by
  intro x hx hp
  rw [countP_split hv] at h
  have h0 : l.countP (fun x => p x && x != v) = 0 := by omega
  rw [List.countP_eq_zero] at h0
  have := h0 x hx
  simp [hp] at this
  exact this

def notIn (D : List Nat) (x : Nat) : Bool := decide (x ∉ D)

/-- ou, inn: arrows from and to a vertex that aren't taken away; Q: those taken away, ahead of place i with all their arrows; of v, at i, the first k1 arrows from it and the first k2 to it. -/
structure Peel (g : Nat → List Nat) (n : Nat) (ou inn : Nat → Nat) (gone : Nat → Bool) (Q : List Nat) (i : Nat) (v : Nat) (k1 k2 : Nat) : Prop where
  qg : ∀ t, gone t = true ↔ t ∈ Q
  rng : ∀ t ∈ Q, t < n
  nd : Q.Nodup
  ci : ∀ t, t < n → inn t + ((g v).take k1).count t = (turn g n t).countP (notIn (Q.take i))
  co : ∀ t, t < n → ou t + ((turn g n v).take k2).count t = (g t).countP (notIn (Q.take i))
  zero : ∀ t, t < n → ou t = 0 ∨ inn t = 0 → t ∈ Q
  sound : ∀ t ∈ Q, ¬ LiveV g t

variable {ou inn : Nat → Nat} {gone : Nat → Bool} {Q : List Nat} {i v k1 k2 : Nat}

theorem notIn_at (hn : Q.Nodup) (hv : Q[i]? = some v) : notIn (Q.take i) v = true := by
  obtain ⟨hi, rfl⟩ := List.getElem?_eq_some_iff.1 hv
  unfold notIn
  rw [decide_eq_true_iff]
  intro h
  obtain ⟨j, hj⟩ := List.getElem?_of_mem h
  have hjl := (List.getElem?_eq_some_iff.1 hj).1
  rw [List.length_take] at hjl
  rw [List.getElem?_take] at hj
  rw [if_pos (by omega)] at hj
  have := (List.getElem?_inj (by omega) hn).1 (hj.trans (List.getElem?_eq_getElem hi).symm)
  omega
theorem count_take_succ {l : List Nat} {k t x : Nat} (h : l[k]? = some t) : (l.take (k + 1)).count x = (l.take k).count x + if x = t then 1 else 0 := by
  obtain ⟨hk, rfl⟩ := List.getElem?_eq_some_iff.1 h
  rw [List.take_succ_eq_append_getElem hk, List.count_append, List.count_singleton]
  by_cases h : l[k] = x
  · subst h; simp
  · have h' : ¬ x = l[k] := fun e => h e.symm
    simp [h, h']
theorem count_take_le (l : List Nat) (k x : Nat) : (l.take k).count x ≤ l.count x := (List.take_sublist k l).count_le x
theorem gone_upd {gone : Nat → Bool} {Q : List Nat} {t : Nat} (h : ∀ x, gone x = true ↔ x ∈ Q) (x : Nat) : upd gone t true x = true ↔ x ∈ Q ++ [t] := by
  rw [List.mem_append, List.mem_singleton, ← h]
  unfold upd
  split <;> simp_all

/-- An arrow from v to t is taken away: what is left. -/
theorem Peel.in_pos (h : Peel g n ou inn gone Q i v k1 k2) (hgn : ∀ v, n ≤ v → g v = []) (hv : Q[i]? = some v) {t : Nat} (ht : (g v)[k1]? = some t) (htn : t < n) :
    0 < inn t ∧ (inn t = 1 → ∀ x, t ∈ g x → x ∈ Q.take i ∨ x = v) := by
  have hnv := notIn_at h.nd hv
  have hvn := h.rng v (List.mem_of_getElem? hv)
  have h1 := h.ci t htn
  have h2 := countP_split hnv (turn g n t)
  have h3 : (turn g n t).count v = (g v).count t := by rw [count_turn, if_pos hvn]
  have h4 := count_take_succ (x := t) ht
  rw [if_pos rfl] at h4
  have h5 := count_take_le (g v) (k1 + 1) t
  refine ⟨by omega, fun he x hx => ?_⟩
  have h6 := countP_only hnv (l := turn g n t) (by omega) x ((mem_turn t x n).2 ⟨Nat.lt_of_not_le fun hh => (by rw [hgn x hh] at hx; cases hx), hx⟩)
  by_cases hd : x ∈ Q.take i
  · exact .inl hd
  · exact .inr (h6 (by unfold notIn; rw [decide_eq_true_iff]; exact hd))
theorem Peel.out_pos (h : Peel g n ou inn gone Q i v k1 k2) (hv : Q[i]? = some v) {t : Nat} (ht : (turn g n v)[k2]? = some t) (htn : t < n) :
    0 < ou t ∧ (ou t = 1 → ∀ x, x ∈ g t → x ∈ Q.take i ∨ x = v) := by
  have hnv := notIn_at h.nd hv
  have h1 := h.co t htn
  have h2 := countP_split hnv (g t)
  have h3 : (turn g n v).count t = (g t).count v := by rw [count_turn, if_pos htn]
  have h4 := count_take_succ (x := t) ht
  rw [if_pos rfl] at h4
  have h5 := count_take_le (turn g n v) (k2 + 1) t
  refine ⟨by omega, fun he x hx => ?_⟩
  have h6 := countP_only hnv (l := g t) (by omega) x hx
  by_cases hd : x ∈ Q.take i
  · exact .inl hd
  · exact .inr (h6 (by unfold notIn; rw [decide_eq_true_iff]; exact hd))

theorem Peel.in_keep (h : Peel g n ou inn gone Q i v k1 k2) {t : Nat} (ht : (g v)[k1]? = some t) (hpos : 0 < inn t) (hz : inn t = 1 → t ∈ Q) :
    Peel g n ou (upd inn t (inn t - 1)) gone Q i v (k1 + 1) k2 := by
  have hu : ∀ x, upd inn t (inn t - 1) x = if x = t then inn t - 1 else inn x := fun x => rfl
  refine ⟨h.qg, h.rng, h.nd, fun x hx => ?_, h.co, fun x hx hz' => ?_, h.sound⟩
  · have := h.ci x hx
    rw [count_take_succ ht, hu]
    split
    · rename_i e; subst e; omega
    · omega
  · rw [hu] at hz'
    by_cases e : x = t
    · subst e
      rw [if_pos rfl] at hz'
      rcases hz' with h1 | h1
      · exact h.zero x hx (.inl h1)
      · exact hz (by omega)
    · rw [if_neg e] at hz'
      exact h.zero x hx hz'
theorem Peel.out_keep (h : Peel g n ou inn gone Q i v k1 k2) {t : Nat} (ht : (turn g n v)[k2]? = some t) (hpos : 0 < ou t) (hz : ou t = 1 → t ∈ Q) :
    Peel g n (upd ou t (ou t - 1)) inn gone Q i v k1 (k2 + 1) := by
  have hu : ∀ x, upd ou t (ou t - 1) x = if x = t then ou t - 1 else ou x := fun x => rfl
  refine ⟨h.qg, h.rng, h.nd, h.ci, fun x hx => ?_, fun x hx hz' => ?_, h.sound⟩
  · have := h.co x hx
    rw [count_take_succ ht, hu]
    split
    · rename_i e; subst e; omega
    · omega
  · rw [hu] at hz'
    by_cases e : x = t
    · subst e
      rw [if_pos rfl] at hz'
      rcases hz' with h1 | h1
      · exact hz (by omega)
      · exact h.zero x hx (.inr h1)
    · rw [if_neg e] at hz'
      exact h.zero x hx hz'

theorem take_app (hi : i < Q.length) (t : Nat) : (Q ++ [t]).take i = Q.take i := by rw [List.take_append_of_le_length (by omega)]
theorem Peel.push (h : Peel g n ou inn gone Q i v k1 k2) (hi : i < Q.length) {t : Nat} (htn : t < n) (hno : t ∉ Q) (hl : ¬ LiveV g t) : Peel g n ou inn (upd gone t true) (Q ++ [t]) i v k1 k2 := by
  refine ⟨gone_upd h.qg, fun x hx => ?_, ?_, fun x hx => ?_, fun x hx => ?_, fun x hx hz => ?_, fun x hx => ?_⟩
  · rw [List.mem_append, List.mem_singleton] at hx
    rcases hx with hx | rfl
    · exact h.rng x hx
    · exact htn
  · rw [List.nodup_append]
    refine ⟨h.nd, by simp, fun a ha b hb => ?_⟩
    rw [List.mem_singleton] at hb
    subst hb
    intro e
    exact hno (e ▸ ha)
  · rw [take_app hi]; exact h.ci x hx
  · rw [take_app hi]; exact h.co x hx
  · exact List.mem_append_left _ (h.zero x hx hz)
  · rw [List.mem_append, List.mem_singleton] at hx
    rcases hx with hx | rfl
    · exact h.sound x hx
    · exact hl
/-- An arrow from v to t, t not yet taken away and without another: it is. -/
theorem Peel.in_push (h : Peel g n ou inn gone Q i v k1 k2) (hgn : ∀ v, n ≤ v → g v = []) (hv : Q[i]? = some v) {t : Nat} (ht : (g v)[k1]? = some t) (htn : t < n) (h1 : inn t = 1) (hno : t ∉ Q) :
    Peel g n ou (upd inn t (inn t - 1)) (upd gone t true) (Q ++ [t]) i v (k1 + 1) k2 := by
  have hi := (List.getElem?_eq_some_iff.1 hv).1
  refine Peel.in_keep (h.push hi htn hno fun hl => ?_) ht (by omega) (fun _ => by simp)
  obtain ⟨w, h2, h3⟩ := hl.prev
  rcases (h.in_pos hgn hv ht htn).2 h1 w h2 with h4 | rfl
  · exact h.sound w (List.mem_of_mem_take h4) h3
  · exact h.sound w (List.mem_of_getElem? hv) h3
theorem Peel.out_push (h : Peel g n ou inn gone Q i v k1 k2) (hv : Q[i]? = some v) {t : Nat} (ht : (turn g n v)[k2]? = some t) (htn : t < n) (h1 : ou t = 1) (hno : t ∉ Q) :
    Peel g n (upd ou t (ou t - 1)) inn (upd gone t true) (Q ++ [t]) i v k1 (k2 + 1) := by
  have hi := (List.getElem?_eq_some_iff.1 hv).1
  refine Peel.out_keep (h.push hi htn hno fun hl => ?_) ht (by omega) (fun _ => by simp)
  obtain ⟨w, h2, h3⟩ := hl.next
  rcases (h.out_pos hv ht htn).2 h1 w h2 with h4 | rfl
  · exact h.sound w (List.mem_of_mem_take h4) h3
  · exact h.sound w (List.mem_of_getElem? hv) h3

theorem countP_more (hn : Q.Nodup) (hv : Q[i]? = some v) (l : List Nat) : l.countP (notIn (Q.take i)) = l.count v + l.countP (notIn (Q.take (i + 1))) := by
  rw [countP_split (notIn_at hn hv)]
  congr 1
  apply List.countP_congr
  intro x _
  have : x ∈ Q.take (i + 1) ↔ x ∈ Q.take i ∨ x = v := take_more hv
  unfold notIn
  simp only [Bool.and_eq_true, decide_eq_true_eq, bne_iff_ne, this]
  constructor
  · rintro ⟨h1, h2⟩ h3; exact h3.elim h1 h2
  · intro h; exact ⟨fun h1 => h (.inl h1), fun h1 => h (.inr h1)⟩
theorem Peel.next (h : Peel g n ou inn gone Q i v k1 k2) (hv : Q[i]? = some v) (hk1 : (g v).length ≤ k1) (hk2 : (turn g n v).length ≤ k2) (v' : Nat) : Peel g n ou inn gone Q (i + 1) v' 0 0 := by
  have hvn := h.rng v (List.mem_of_getElem? hv)
  refine ⟨h.qg, h.rng, h.nd, fun t ht => ?_, fun t ht => ?_, h.zero, h.sound⟩
  · have h1 := h.ci t ht
    rw [List.take_of_length_le hk1, countP_more h.nd hv, count_turn, if_pos hvn] at h1
    simp
    omega
  · have h1 := h.co t ht
    rw [List.take_of_length_le hk2, countP_more h.nd hv, count_turn, if_pos ht] at h1
    simp
    omega
theorem Peel.at_ (h : Peel g n ou inn gone Q i v 0 0) (v' : Nat) : Peel g n ou inn gone Q i v' 0 0 :=
  ⟨h.qg, h.rng, h.nd, fun t ht => by have := h.ci t ht; simpa using this, fun t ht => by have := h.co t ht; simpa using this, h.zero, h.sound⟩
/-- At the queue's end: what is not gone is live. -/
theorem Peel.end_ (h : Peel g n ou inn gone Q i v 0 0) (hgn : ∀ v, n ≤ v → g v = []) (hg : ∀ v, ∀ t ∈ g v, t < n) (hi : Q.length ≤ i) (t : Nat) (ht : t < n) : gone t = false ↔ LiveV g t := by
  have hq : Q.take i = Q := List.take_of_length_le hi
  constructor
  · intro hf
    have h0 : ∀ x, x < n ∧ x ∉ Q → (∃ y, y ∈ g x ∧ (y < n ∧ y ∉ Q)) ∧ ∃ y, x ∈ g y ∧ (y < n ∧ y ∉ Q) := fun x hx => by
      have hz := h.zero x hx.1
      have hci := h.ci x hx.1
      have hco := h.co x hx.1
      rw [hq] at hci hco
      simp at hci hco
      have hou : ou x ≠ 0 := fun e => hx.2 (hz (.inl e))
      have hin : inn x ≠ 0 := fun e => hx.2 (hz (.inr e))
      refine ⟨?_, ?_⟩
      · obtain ⟨y, h1, h2⟩ := List.countP_pos_iff.1 (show 0 < (g x).countP (notIn Q) by omega)
        unfold notIn at h2
        rw [decide_eq_true_iff] at h2
        exact ⟨y, h1, hg x y h1, h2⟩
      · obtain ⟨y, h1, h2⟩ := List.countP_pos_iff.1 (show 0 < (turn g n x).countP (notIn Q) by omega)
        unfold notIn at h2
        rw [decide_eq_true_iff] at h2
        rw [mem_turn] at h1
        exact ⟨y, h1.2, h1.1, h2⟩
    refine live_of_two (P := fun x => x < n ∧ x ∉ Q) hgn (fun x hx => hx.1) (fun x hx => (h0 x hx).1) (fun x hx => (h0 x hx).2) t ⟨ht, fun hh => ?_⟩
    rw [(h.qg t).2 hh] at hf
    cases hf
  · intro hl
    cases hgt : gone t with
    | false => rfl
    | true => exact absurd hl (h.sound t ((h.qg t).1 hgt))

/-! ### the start -/
/-- Behind the first m vertices of the start. -/
structure Peel0 (g : Nat → List Nat) (n : Nat) (gone : Nat → Bool) (Q : List Nat) (m : Nat) : Prop where
  qg : ∀ t, gone t = true ↔ t ∈ Q
  nd : Q.Nodup
  mem : ∀ t, t ∈ Q ↔ t < m ∧ (g t = [] ∨ turn g n t = [])
variable {m : Nat}
theorem Peel0.start : Peel0 g n (fun _ => false) [] 0 := ⟨by simp, by simp, by simp⟩
theorem Peel0.push (h : Peel0 g n gone Q m) (he : g m = [] ∨ turn g n m = []) : Peel0 g n (upd gone m true) (Q ++ [m]) (m + 1) := by
  have hno : m ∉ Q := fun hh => by have := ((h.mem m).1 hh).1; omega
  refine ⟨gone_upd h.qg, ?_, fun t => ?_⟩
  · rw [List.nodup_append]
    refine ⟨h.nd, by simp, fun a ha b hb => ?_⟩
    rw [List.mem_singleton] at hb
    subst hb
    intro e
    exact hno (e ▸ ha)
  · rw [List.mem_append, List.mem_singleton, h.mem]
    constructor
    · rintro (⟨h1, h2⟩ | rfl)
      · exact ⟨by omega, h2⟩
      · exact ⟨by omega, he⟩
    · rintro ⟨h1, h2⟩
      by_cases e : t = m
      · exact .inr e
      · exact .inl ⟨by omega, h2⟩
theorem Peel0.skip (h : Peel0 g n gone Q m) (he : ¬ (g m = [] ∨ turn g n m = [])) : Peel0 g n gone Q (m + 1) := by
  refine ⟨h.qg, h.nd, fun t => ?_⟩
  rw [h.mem]
  constructor
  · rintro ⟨h1, h2⟩; exact ⟨by omega, h2⟩
  · rintro ⟨h1, h2⟩
    have : t ≠ m := fun e => he (e ▸ h2)
    exact ⟨by omega, h2⟩
theorem Peel0.peel (h : Peel0 g n gone Q n) (hgn : ∀ v, n ≤ v → g v = []) (v : Nat) : Peel g n (fun t => (g t).length) (fun t => (turn g n t).length) gone Q 0 v 0 0 := by
  have hc : ∀ l : List Nat, l.countP (notIn []) = l.length := fun l => by
    rw [List.countP_eq_length]; intro x _; simp [notIn]
  refine ⟨h.qg, fun t ht => ((h.mem t).1 ht).1, h.nd, fun t _ => ?_, fun t _ => ?_, fun t ht hz => ?_, fun t ht hl => ?_⟩
  · simp [hc]
  · simp [hc]
  · refine (h.mem t).2 ⟨ht, ?_⟩
    rcases hz with h1 | h1
    · exact .inl (List.eq_nil_of_length_eq_zero h1)
    · exact .inr (List.eq_nil_of_length_eq_zero h1)
  · rcases ((h.mem t).1 ht).2 with h1 | h1
    · obtain ⟨y, h2, _⟩ := hl.next
      rw [h1] at h2
      cases h2
    · obtain ⟨w, h2, _⟩ := hl.prev
      have h3 := (mem_turn (g := g) t w n).2 ⟨Nat.lt_of_not_le fun hh => (by rw [hgn w hh] at h2; cases h2), h2⟩
      rw [h1] at h3
      cases h3
end Go.Proofs.YtapebbejdgeijaaDoor.Tar
