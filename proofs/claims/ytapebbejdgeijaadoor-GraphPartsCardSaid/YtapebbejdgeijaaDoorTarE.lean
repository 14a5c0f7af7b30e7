/- Plain law: the first of the shortest ways, by a search in breadth with the lesser vertices first, and by the distances to the end. -/
import Derived.Test.YtapebbejdgeijaaDoorTarD
namespace Go.Proofs.YtapebbejdgeijaaDoor.Tar
variable {g : Nat → List Nat} {n : Nat}

/-- d arrows lead from a to b. -/
inductive PathN (g : Nat → List Nat) (b : Nat) : Nat → Nat → Prop
  | stop : PathN g b b 0
  | go {x y d : Nat} : y ∈ g x → PathN g b y d → PathN g b x (d + 1)

theorem PathN.of_walk {b t d : Nat} (h : Walk (turn g n) [b] t d) : PathN g b t d := by
  induction h with
  | src h =>
    rw [List.mem_singleton] at h
    subst h
    exact .stop
  | step _ e ih => exact .go ((mem_turn _ _ n).1 e).2 ih
theorem PathN.walk (hgn : ∀ v, n ≤ v → g v = []) {b t d : Nat} (h : PathN g b t d) : Walk (turn g n) [b] t d := by
  induction h with
  | stop => exact .src (by simp)
  | @go x y d e _ ih => exact .step ih ((mem_turn _ _ n).2 ⟨Nat.lt_of_not_le fun hh => (by rw [hgn x hh] at e; cases e), e⟩)
theorem PathN.reach {b t d : Nat} (h : PathN g b t d) : Reach (Arr g) t b := by
  induction h with
  | stop => exact .refl _
  | go e _ ih => exact (Reach.one e).trans ih
theorem PathN.of_reach {b t : Nat} (h : Reach (Arr g) t b) : ∃ d, PathN g b t d := by
  have : ∀ c, Reach (Arr g) t c → ∀ d, PathN g b c d → ∃ d, PathN g b t d := by
    intro c hr
    induction hr with
    | refl => intro d hd; exact ⟨d, hd⟩
    | step _ e ih => intro d hd; exact ih _ (.go e hd)
  exact this b h 0 .stop

/-- The first of the shortest ways from a vertex to b. -/
inductive Lex (g : Nat → List Nat) (b : Nat) : Nat → List Nat → Prop
  | stop : Lex g b b [b]
  | go {x y : Nat} {l : List Nat} : x ≠ b → y ∈ g x → Lex g b y l → (∀ t ∈ g x, ∀ d, PathN g b t d → l.length ≤ d + 1 ∧ (d + 1 = l.length → y ≤ t)) → Lex g b x (x :: l)
theorem Lex.pos {b x : Nat} {l : List Nat} (h : Lex g b x l) : 0 < l.length := by cases h <;> simp
theorem Lex.path {b x : Nat} {l : List Nat} (h : Lex g b x l) : PathN g b x (l.length - 1) := by
  induction h with
  | stop => exact .stop
  | @go x y l _ e h _ ih =>
    have := h.pos
    rw [List.length_cons, Nat.add_sub_cancel, show l.length = (l.length - 1) + 1 by omega]
    exact .go e ih
theorem Lex.uniq {b x : Nat} {l : List Nat} (h : Lex g b x l) : ∀ {l' : List Nat}, Lex g b x l' → l = l' := by
  induction h with
  | stop =>
    intro l' h'
    cases h' with
    | stop => rfl
    | go hne => exact absurd rfl hne
  | @go x y l hne e h hmin ih =>
    intro l' h'
    cases h' with
    | stop => exact absurd rfl hne
    | @go _ y' l' _ e' h' hmin' =>
      have p1 := h.pos
      have p2 := h'.pos
      have a1 := hmin y' e' _ h'.path
      have a2 := hmin' y e _ h.path
      have e1 : l.length = l'.length := by omega
      obtain rfl : y = y' := Nat.le_antisymm (a1.2 (by omega)) (a2.2 (by omega))
      rw [ih h']
theorem Lex.head {b x : Nat} {l : List Nat} (h : Lex g b x l) : ∃ l', l = x :: l' := by cases h <;> exact ⟨_, rfl⟩

/-! ### by the distances to the end -/
/-- left: the arrows to b. -/
def Left (g : Nat → List Nat) (b : Nat) (left : Nat → Int) : Prop := (∀ t d, left t = (d : Nat) → PathN g b t d) ∧ ∀ t d, PathN g b t d → 0 ≤ left t ∧ left t ≤ d
theorem left_of_far (hgn : ∀ v, n ≤ v → g v = []) {b : Nat} {f : Nat → Int} {Q : List Nat} {i k : Nat} (h : Far (turn g n) n [b] f Q i k) (hi : Q.length ≤ i) : Left g b f := by
  obtain ⟨h1, h2⟩ := h.end_ hi
  exact ⟨fun t d e => PathN.of_walk (h1 t d e), fun t d hp => h2 t d (hp.walk hgn)⟩
theorem Left.zero {b : Nat} {left : Nat → Int} (h : Left g b left) (t : Nat) : left t = 0 ↔ t = b := by
  constructor
  · intro e
    have := h.1 t 0 e
    cases this
    rfl
  · rintro rfl
    have := h.2 t 0 .stop
    omega
/-- One step of the greedy way. -/
theorem Left.best {b : Nat} {left : Nat → Int} (h : Left g b left) {x : Nat} (hx : 0 ≤ left x) (hne : x ≠ b) : ∃ y, y ∈ g x ∧ left y = left x - 1 := by
  have h1 := h.1 x (left x).toNat (by omega)
  generalize hd : (left x).toNat = d at h1
  cases h1 with
  | stop => exact absurd rfl hne
  | @go _ y d e hp =>
    refine ⟨y, e, ?_⟩
    have h2 := h.2 y d hp
    have h3 := h.1 y (left y).toNat (by omega)
    have h4 := h.2 x _ (.go e h3)
    omega
/-- A list of steps, each the least among those that come nearer. -/
inductive Greedy (g : Nat → List Nat) (b : Nat) (left : Nat → Int) : Nat → List Nat → Prop
  | stop : Greedy g b left b [b]
  | go {x y : Nat} {l : List Nat} : x ≠ b → y ∈ g x → left y = left x - 1 → (∀ t ∈ g x, left t = left x - 1 → y ≤ t) → Greedy g b left y l → Greedy g b left x (x :: l)
theorem Greedy.lex {b : Nat} {left : Nat → Int} (h : Left g b left) {x : Nat} {l : List Nat} (hg : Greedy g b left x l) : 0 ≤ left x → Lex g b x l ∧ left x + 1 = l.length := by
  induction hg with
  | stop =>
    intro _
    have := (h.zero b).2 rfl
    exact ⟨.stop, by simp; omega⟩
  | @go x y l hne e hl hmin _ ih =>
    intro hx
    have hx0 : left x ≠ 0 := fun e0 => hne ((h.zero x).1 e0)
    obtain ⟨h1, h2⟩ := ih (by omega)
    refine ⟨.go hne e h1 fun t ht d hp => ?_, by rw [List.length_cons]; omega⟩
    have h3 := h.2 t d hp
    have h4 := h.2 x _ (PathN.go ht (h.1 t (left t).toNat (by omega)))
    refine ⟨by omega, fun he => hmin t ht (by omega)⟩

/-! ### the search in breadth -/
structure Bfs (sv : Nat → List Nat) (n a : Nat) (came : Nat → Int) (Q : List Nat) (pi : Nat → Nat) (i k : Nat) : Prop where
  mem : ∀ t, 0 ≤ came t ↔ t ∈ Q
  lo : ∀ t, -1 ≤ came t ∧ came t < n
  rng : ∀ t ∈ Q, t < n
  nd : Q.Nodup
  head : Q[0]? = some a
  self : came a = a
  par : ∀ b t, 0 < b → Q[b]? = some t → pi b ≤ i ∧ (∀ v, pi b = i → Q[i]? = some v → t ∈ (sv v).take k) ∧ ∃ p, Q[pi b]? = some p ∧ came t = p ∧ t ∈ sv p ∧ pi b < b
  mono : ∀ x y s t, 0 < x → x < y → Q[x]? = some s → Q[y]? = some t → pi x < pi y ∨ (pi x = pi y ∧ s < t)
  past : ∀ j x, j < i → Q[j]? = some x → ∀ t ∈ sv x, ∃ b, Q[b]? = some t ∧ (b = 0 ∨ pi b ≤ j)
  now : ∀ x, Q[i]? = some x → ∀ t ∈ (sv x).take k, ∃ b, Q[b]? = some t ∧ (b = 0 ∨ pi b ≤ i)

variable {sv : Nat → List Nat} {a : Nat} {came : Nat → Int} {Q : List Nat} {pi : Nat → Nat} {i k : Nat}
theorem Bfs.start (ha : a < n) : Bfs sv n a (upd (fun _ => -1) a a) [a] (fun _ => 0) 0 0 := by
  have hu : ∀ t, upd (fun _ => (-1 : Int)) a (a : Int) t = if t = a then (a : Int) else -1 := fun t => rfl
  refine ⟨fun t => ?_, fun t => ?_, by simp [ha], by simp, by simp, by simp, fun b t hb hh => ?_, fun x y s t hx hxy hs ht => ?_, fun j x hj => by omega, fun x _ t ht => by simp at ht⟩
  · rw [hu]; split <;> simp_all
  · rw [hu]; split <;> omega
  · have := (List.getElem?_eq_some_iff.1 hh).1; simp at this; omega
  · have := (List.getElem?_eq_some_iff.1 ht).1; simp at this; omega
theorem Bfs.skip (h : Bfs sv n a came Q pi i k) {v t : Nat} (hv : Q[i]? = some v) (ht : (sv v)[k]? = some t) (hf : ¬ came t < 0) : Bfs sv n a came Q pi i (k + 1) := by
  refine ⟨h.mem, h.lo, h.rng, h.nd, h.head, h.self, fun b x hb hx => ?_, h.mono, h.past, fun x hx y hy => ?_⟩
  · obtain ⟨h1, h2, h3⟩ := h.par b x hb hx
    refine ⟨h1, fun v' he hv' => ?_, h3⟩
    obtain rfl : v = v' := Option.some.inj (hv.symm.trans hv')
    exact (take_more ht).2 (.inl (h2 v he hv))
  · obtain rfl : v = x := Option.some.inj (hv.symm.trans hx)
    rcases (take_more ht).1 hy with h1 | rfl
    · exact h.now v hv y h1
    · obtain ⟨b, hb⟩ := List.getElem?_of_mem ((h.mem y).1 (by omega))
      refine ⟨b, hb, ?_⟩
      rcases Nat.eq_zero_or_pos b with h0 | h0
      · exact .inl h0
      · exact .inr (h.par b y h0 hb).1
theorem Bfs.push (h : Bfs sv n a came Q pi i k) (hs : ∀ v, (sv v).Pairwise (· ≤ ·)) {v t : Nat} (hv : Q[i]? = some v) (ht : (sv v)[k]? = some t) (htn : t < n) (hf : came t < 0) :
    Bfs sv n a (upd came t v) (Q ++ [t]) (upd pi Q.length i) i (k + 1) := by
  have hil := (List.getElem?_eq_some_iff.1 hv).1
  have htQ : t ∉ Q := fun hh => by have := (h.mem t).2 hh; omega
  have hvn := h.rng v (List.mem_of_getElem? hv)
  have hu : ∀ x, upd came t (v : Int) x = if x = t then (v : Int) else came x := fun x => rfl
  have hp : ∀ b, upd pi Q.length i b = if b = Q.length then i else pi b := fun b => rfl
  have hat : ∀ j x, (Q ++ [t])[j]? = some x → (j < Q.length ∧ Q[j]? = some x) ∨ (j = Q.length ∧ x = t) := fun j x hx => by
    have hl := (List.getElem?_eq_some_iff.1 hx).1
    simp at hl
    rw [List.getElem?_append] at hx
    split at hx
    · rename_i hj; exact .inl ⟨hj, hx⟩
    · have e : j = Q.length := by omega
      subst e
      simp at hx
      exact .inr ⟨rfl, hx.symm⟩
  have hin : ∀ j x, Q[j]? = some x → (Q ++ [t])[j]? = some x := fun j x hx => by rw [List.getElem?_append_left (List.getElem?_eq_some_iff.1 hx).1]; exact hx
  have hlast : (Q ++ [t])[Q.length]? = some t := by simp
  have hqt : ∀ j x, Q[j]? = some x → x ≠ t := fun j x hx e => htQ (e ▸ List.mem_of_getElem? hx)
  have hpl : ∀ j, j < Q.length → upd pi Q.length i j = pi j := fun j hj => by rw [hp, if_neg (by omega)]
  have hnew : ∀ x, (Q ++ [t])[i]? = some x → x = v := fun x hx => by
    rcases hat i x hx with h1 | h1
    · exact Option.some.inj (h1.2.symm.trans hv)
    · omega
  have lift : ∀ j x, (∃ b, Q[b]? = some x ∧ (b = 0 ∨ pi b ≤ j)) → ∃ b, (Q ++ [t])[b]? = some x ∧ (b = 0 ∨ upd pi Q.length i b ≤ j) := fun j x ⟨b, h1, h2⟩ => by
    have hbl := (List.getElem?_eq_some_iff.1 h1).1
    exact ⟨b, hin b x h1, by rw [hpl b hbl]; exact h2⟩
  refine ⟨fun x => ?_, fun x => ?_, fun x hx => ?_, ?_, ?_, ?_, fun b x hb hx => ?_, fun x y s z hx hxy hsx hz => ?_, fun j x hj hx y hy => ?_, fun x hx y hy => ?_⟩
  · rw [hu, List.mem_append, List.mem_singleton, ← h.mem]
    split <;> rename_i e
    · simp [e]
    · simp [e]
  · rw [hu]; have := h.lo x; split <;> omega
  · rw [List.mem_append, List.mem_singleton] at hx
    rcases hx with hx | rfl
    · exact h.rng x hx
    · exact htn
  · rw [List.nodup_append]
    refine ⟨h.nd, by simp, fun x hx y hy => ?_⟩
    rw [List.mem_singleton] at hy
    subst hy
    intro e
    exact htQ (e ▸ hx)
  · exact hin 0 a h.head
  · rw [hu, if_neg (hqt 0 a h.head)]; exact h.self
  · rcases hat b x hx with ⟨h1, h2⟩ | ⟨rfl, rfl⟩
    · obtain ⟨h3, h4, p, h5, h6, h7, h8⟩ := h.par b x hb h2
      rw [hpl b h1]
      refine ⟨h3, fun v' he hv' => ?_, p, hin _ p h5, by rw [hu, if_neg (hqt b x h2)]; exact h6, h7, h8⟩
      obtain rfl := hnew v' hv'
      exact (take_more ht).2 (.inl (h4 v' he hv))
    · rw [hp, if_pos rfl]
      refine ⟨Nat.le_refl _, fun v' _ hv' => ?_, v, hin i v hv, by rw [hu, if_pos rfl], mem_at ht, hil⟩
      obtain rfl := hnew v' hv'
      exact (take_more ht).2 (.inr rfl)
  · rcases hat x s hsx with ⟨h1, h2⟩ | ⟨rfl, rfl⟩
    · rcases hat y z hz with ⟨h3, h4⟩ | ⟨rfl, rfl⟩
      · rw [hpl x h1, hpl y h3]; exact h.mono x y s z hx hxy h2 h4
      · rw [hpl x h1, hp, if_pos rfl]
        obtain ⟨h3, h4, _⟩ := h.par x s hx h2
        rcases Nat.lt_or_eq_of_le h3 with h5 | h5
        · exact .inl h5
        · refine .inr ⟨h5, ?_⟩
          have h6 := h4 v h5 hv
          obtain ⟨j, hj⟩ := List.getElem?_of_mem h6
          have hjk := (List.getElem?_eq_some_iff.1 hj).1
          rw [List.length_take] at hjk
          rw [List.getElem?_take, if_pos (by omega)] at hj
          have hsv := hs v
          rw [List.pairwise_iff_getElem] at hsv
          obtain ⟨a1, a2⟩ := List.getElem?_eq_some_iff.1 hj
          obtain ⟨b1, b2⟩ := List.getElem?_eq_some_iff.1 ht
          have := hsv j k a1 b1 (by omega)
          rw [a2, b2] at this
          have := hqt x s h2
          omega
    · have := (List.getElem?_eq_some_iff.1 hz).1; simp at this; omega
  · rcases hat j x hx with ⟨h1, h2⟩ | ⟨rfl, rfl⟩
    · exact lift j y (h.past j x hj h2 y hy)
    · omega
  · obtain rfl := hnew x hx
    rcases (take_more ht).1 hy with h1 | rfl
    · exact lift i y (h.now x hv y h1)
    · exact ⟨Q.length, hlast, .inr (by rw [hp, if_pos rfl]; exact Nat.le_refl _)⟩
theorem Bfs.next (h : Bfs sv n a came Q pi i k) {v : Nat} (hv : Q[i]? = some v) (hk : (sv v).length ≤ k) : Bfs sv n a came Q pi (i + 1) 0 := by
  refine ⟨h.mem, h.lo, h.rng, h.nd, h.head, h.self, fun b x hb hx => ?_, h.mono, fun j x hj hx y hy => ?_, fun _ _ t ht => by simp at ht⟩
  · obtain ⟨h1, _, h3⟩ := h.par b x hb hx
    exact ⟨by omega, fun _ he => by omega, h3⟩
  · by_cases hji : j = i
    · subst hji
      obtain rfl : v = x := Option.some.inj (hv.symm.trans hx)
      exact h.now v hv y (by rw [List.take_of_length_le hk]; exact hy)
    · exact h.past j x (by omega) hx y hy
/-- At the queue's end nothing else can be reached. -/
theorem Bfs.none_ (h : Bfs sv n a came Q pi i k) (hi : Q.length ≤ i) {b : Nat} (hb : came b < 0) : ¬ Reach (Arr sv) a b := fun hr => by
  have : ∀ c, Reach (Arr sv) a c → c ∈ Q := by
    intro c hr
    induction hr with
    | refl => exact List.mem_of_getElem? h.head
    | step _ e ih =>
      obtain ⟨j, hj⟩ := List.getElem?_of_mem ih
      obtain ⟨b, hb, _⟩ := h.past j _ (by have := (List.getElem?_eq_some_iff.1 hj).1; omega) hj _ e
      exact List.mem_of_getElem? hb
  have := (h.mem b).2 (this b hr)
  omega

/-- The way back from a vertex, by whence each was found. -/
inductive Chn (came : Nat → Int) (a : Nat) : Nat → List Nat → Prop
  | stop : Chn came a a [a]
  | go {v p : Nat} {l : List Nat} : v ≠ a → came v = p → Chn came a p l → Chn came a v (v :: l)
theorem Bfs.at_ne (h : Bfs sv n a came Q pi i k) {x v : Nat} (hx : Q[x]? = some v) (hv : v ≠ a) : 0 < x := by
  rcases Nat.eq_zero_or_pos x with h0 | h0
  · subst h0
    exact absurd (Option.some.inj (hx.symm.trans h.head)) hv
  · exact h0
theorem Bfs.at_zero (h : Bfs sv n a came Q pi i k) {x : Nat} (hx : Q[x]? = some a) : x = 0 := (List.getElem?_inj (List.getElem?_eq_some_iff.1 hx).1 h.nd).1 (hx.trans h.head.symm)
/-- Whoever leaves ahead of the way found comes there ahead of it. -/
theorem Bfs.ahead (h : Bfs sv n a came Q pi i 0) {b : Nat} : ∀ (l : List Nat) (p q x y d : Nat), Chn came a b l → b ∈ Q → l[d]? = some p → Q[x]? = some p → Q[y]? = some q → y < x → PathN sv b q d → False := by
  intro l p q x y d hch hb
  have key : ∀ (d p q x y : Nat), l[d]? = some p → Q[x]? = some p → Q[y]? = some q → y < x → PathN sv b q d → False := by
    intro d
    induction d with
    | zero =>
      intro p q x y hl hx hy hxy hp
      cases hp
      have : p = b := by cases hch <;> simp at hl <;> omega
      subst this
      have := (List.getElem?_inj (List.getElem?_eq_some_iff.1 hx).1 h.nd).1 (hx.trans hy.symm)
      omega
    | succ d ih =>
      intro p q x y hl hx hy hxy hp
      cases hp with
      | @go _ z _ e hp =>
        -- the vertex ahead of p on the way back
        have hstep : ∀ (v : Nat) (l : List Nat), Chn came a v l → ∀ (d p : Nat), l[d + 1]? = some p → ∃ c : Nat, l[d]? = some c ∧ c ≠ a ∧ came c = p := by
          intro v l hch
          induction hch with
          | stop => intro d p hp; simp at hp
          | @go v p' l hne he hc ih2 =>
            intro d p hp
            cases d with
            | zero =>
              refine ⟨v, rfl, hne, ?_⟩
              have : p' = p := by cases hc <;> simpa using hp
              subst this
              exact he
            | succ d =>
              obtain ⟨c, h1, h2⟩ := ih2 d p (by simpa using hp)
              exact ⟨c, by simpa using h1, h2⟩
        have hin : ∀ (v : Nat) (l : List Nat), Chn came a v l → v ∈ Q → ∀ c ∈ l, c ∈ Q := by
          intro v l hch
          induction hch with
          | stop => intro hv c hc; rw [List.mem_singleton] at hc; subst hc; exact hv
          | @go v p' l hne he _ ih2 =>
            intro hv c hc
            rw [List.mem_cons] at hc
            rcases hc with rfl | hc
            · exact hv
            · refine ih2 ?_ c hc
              obtain ⟨j, hj⟩ := List.getElem?_of_mem hv
              obtain ⟨_, _, p2, h5, h6, _⟩ := h.par j v (h.at_ne hj hne) hj
              obtain rfl : p' = p2 := by omega
              exact List.mem_of_getElem? h5
        obtain ⟨c, hc1, hc2, hc3⟩ := hstep b l hch d p hl
        have hcQ := hin b l hch hb c (List.mem_of_getElem? hc1)
        obtain ⟨u, hu⟩ := List.getElem?_of_mem hcQ
        have hu0 := h.at_ne hu hc2
        obtain ⟨h1, h2, p2, h5, h6, h7, h8⟩ := h.par u c hu0 hu
        obtain rfl : p = p2 := by omega
        have hxu : x = pi u := (List.getElem?_inj (List.getElem?_eq_some_iff.1 hx).1 h.nd).1 (hx.trans h5.symm)
        have hyi : y < i := by omega
        obtain ⟨w, hw, hwp⟩ := h.past y q hyi hy z e
        refine ih c z u w hc1 hu hw ?_ hp
        rcases hwp with rfl | hwp
        · exact hu0
        · apply Nat.lt_of_not_le
          intro huw
          rcases Nat.lt_or_eq_of_le huw with h9 | h9
          · rcases h.mono u w c z hu0 h9 hu hw with h10 | h10 <;> omega
          · subst h9; omega
  exact key d p q x y

theorem Bfs.chn_in (h : Bfs sv n a came Q pi i k) {v : Nat} {l : List Nat} (hch : Chn came a v l) : v ∈ Q → ∀ c ∈ l, c ∈ Q := by
  induction hch with
  | stop => intro hv c hc; rw [List.mem_singleton] at hc; subst hc; exact hv
  | @go v p' l hne he _ ih2 =>
    intro hv c hc
    rw [List.mem_cons] at hc
    rcases hc with rfl | hc
    · exact hv
    · refine ih2 ?_ c hc
      obtain ⟨j, hj⟩ := List.getElem?_of_mem hv
      obtain ⟨_, _, p2, h5, h6, _⟩ := h.par j _ (h.at_ne hj hne) hj
      obtain rfl : p' = p2 := by omega
      exact List.mem_of_getElem? h5
theorem Chn.head {v : Nat} {l : List Nat} (h : Chn came a v l) : l[0]? = some v := by cases h <;> rfl
/-- On the way back the places sink. -/
theorem Bfs.chn_lt (h : Bfs sv n a came Q pi i k) {v : Nat} {l : List Nat} (hch : Chn came a v l) : v ∈ Q → ∀ (d e c c' u u' : Nat), d < e → l[d]? = some c → l[e]? = some c' → Q[u]? = some c → Q[u']? = some c' → u' < u := by
  induction hch with
  | stop =>
    intro _ d e c c' u u' hde h1 h2
    have := (List.getElem?_eq_some_iff.1 h2).1
    simp at this
    omega
  | @go v p l hne he hc ih =>
    intro hv d e c c' u u' hde h1 h2 hu hu'
    obtain ⟨x, hx⟩ := List.getElem?_of_mem hv
    obtain ⟨_, _, p2, h5, h6, _, h8⟩ := h.par x v (h.at_ne hx hne) hx
    obtain rfl : p = p2 := by omega
    have ih' := ih (List.mem_of_getElem? h5)
    obtain ⟨e', rfl⟩ : ∃ e', e = e' + 1 := ⟨e - 1, by omega⟩
    rw [List.getElem?_cons_succ] at h2
    cases d with
    | zero =>
      obtain rfl : v = c := by simpa using h1
      have hux : u = x := (List.getElem?_inj (List.getElem?_eq_some_iff.1 hu).1 h.nd).1 (hu.trans hx.symm)
      subst hux
      rcases Nat.eq_zero_or_pos e' with h0 | h0
      · subst h0
        obtain rfl : p = c' := Option.some.inj (hc.head.symm.trans h2)
        have : u' = pi u := (List.getElem?_inj (List.getElem?_eq_some_iff.1 hu').1 h.nd).1 (hu'.trans h5.symm)
        omega
      · have := ih' 0 e' p c' (pi u) u' h0 hc.head h2 h5 hu'
        omega
    | succ d =>
      rw [List.getElem?_cons_succ] at h1
      exact ih' d e' c c' u u' (by omega) h1 h2 hu hu'

/-- The way found is the first of the shortest. -/
theorem Bfs.lex (h : Bfs sv n a came Q pi i 0) {b : Nat} (hb : b ∈ Q) {l : List Nat} (hch : Chn came a b l) : Lex sv b a l.reverse := by
  -- each end of the way
  have main : ∀ (v : Nat) (r : List Nat), Chn came a v r → v ∈ Q → ∀ (f : List Nat), l = f ++ r → Lex sv b v (f ++ [v]).reverse → Lex sv b a (f ++ r).reverse := by
    intro v r hc
    induction hc with
    | stop => intro _ f _ hl; exact hl
    | @go v p r hne he hc ih =>
      intro hv f hf hl
      obtain ⟨x, hx⟩ := List.getElem?_of_mem hv
      have hx0 := h.at_ne hx hne
      obtain ⟨h1, h2, p2, h5, h6, h7, h8⟩ := h.par x v hx0 hx
      obtain rfl : p = p2 := by omega
      have hpi : pi x < i := by
        rcases Nat.lt_or_eq_of_le h1 with h9 | h9
        · exact h9
        · have h10 := h5
          rw [h9] at h10
          have := h2 p h9 h10
          simp at this
      have hfl : l[f.length]? = some v := by rw [hf]; simp
      have hpl : l[f.length + 1]? = some p := by
        rw [hf, List.getElem?_append_right (by omega), show f.length + 1 - f.length = 0 + 1 by omega, List.getElem?_cons_succ]
        exact hc.head
      have hlen : ((f ++ [v]).reverse).length = f.length + 1 := by simp
      obtain ⟨xb, hxb⟩ := List.getElem?_of_mem hb
      have hpb : p ≠ b := fun e => by
        subst e
        have := h.chn_lt hch hb 0 (f.length + 1) p p xb (pi x) (by omega) hch.head hpl hxb h5
        have := (List.getElem?_inj (List.getElem?_eq_some_iff.1 hxb).1 h.nd).1 (hxb.trans h5.symm)
        omega
      have := ih (List.mem_of_getElem? h5) (f ++ [v]) (by rw [hf]; simp) (by
        rw [List.reverse_append, List.reverse_singleton]
        refine .go hpb h7 hl fun t ht d hp => ?_
        show (f ++ [v]).reverse.length ≤ d + 1 ∧ (d + 1 = (f ++ [v]).reverse.length → v ≤ t)
        rw [hlen]
        obtain ⟨w, hw, hwp⟩ := h.past (pi x) p hpi h5 t ht
        constructor
        · apply Nat.le_of_not_lt
          intro hd
          have hdl : d + 1 < l.length := by have := (List.getElem?_eq_some_iff.1 hpl).1; omega
          obtain ⟨c, hc'⟩ : ∃ c, l[d + 1]? = some c := ⟨_, List.getElem?_eq_getElem hdl⟩
          obtain ⟨u, hu⟩ := List.getElem?_of_mem (h.chn_in hch hb c (List.mem_of_getElem? hc'))
          have hxu : x ≤ u := by
            rcases Nat.lt_or_eq_of_le (show d + 1 ≤ f.length by omega) with h9 | h9
            · exact Nat.le_of_lt (h.chn_lt hch hb (d + 1) f.length c v u x h9 hc' hfl hu hx)
            · rw [h9] at hc'
              obtain rfl := Option.some.inj (hc'.symm.trans hfl)
              have := (List.getElem?_inj (List.getElem?_eq_some_iff.1 hx).1 h.nd).1 (hx.trans hu.symm)
              omega
          exact h.ahead l c p u (pi x) (d + 1) hch hb hc' hu h5 (by omega) (.go ht hp)
        · intro he2
          obtain rfl : d = f.length := by omega
          apply Nat.le_of_not_lt
          intro htv
          refine h.ahead l v t x w f.length hch hb hfl hx hw ?_ hp
          rcases hwp with rfl | hwp
          · exact hx0
          · apply Nat.lt_of_not_le
            intro hxw
            rcases Nat.lt_or_eq_of_le hxw with h9 | h9
            · rcases h.mono x w v t hx0 h9 hx hw with h10 | h10 <;> omega
            · subst h9
              obtain rfl := Option.some.inj (hx.symm.trans hw)
              omega)
      simpa using this
  have := main b l hch hb [] rfl .stop
  simpa using this

/-! ### the loop: a second vertex n stands for v at the end -/
/-- g with the arrows to v led to n. -/
def led (g : Nat → List Nat) (n v : Nat) (x : Nat) : List Nat := if x < n then (g x).map fun t => if t = v then n else t else []
theorem led_mem (hg : ∀ x, ∀ t ∈ g x, t < n) {v x y : Nat} (hx : x < n) : y ∈ led g n v x ↔ (y = n ∧ v ∈ g x) ∨ (y ≠ v ∧ y < n ∧ y ∈ g x) := by
  unfold led
  rw [if_pos hx, List.mem_map]
  constructor
  · rintro ⟨t, ht, rfl⟩
    split
    · rename_i e; subst e; exact .inl ⟨rfl, ht⟩
    · rename_i e; exact .inr ⟨e, hg x t ht, ht⟩
  · rintro (⟨rfl, h⟩ | ⟨h1, h2, h3⟩)
    · exact ⟨v, h, by simp⟩
    · exact ⟨y, h3, by rw [if_neg h1]⟩
theorem led_path (hg : ∀ x, ∀ t ∈ g x, t < n) {v t d : Nat} (h : PathN (led g n v) n t d) : t < n → PathN g v t d := by
  induction h with
  | stop => intro h; omega
  | @go x y d e hp ih =>
    intro hx
    rcases (led_mem hg hx).1 e with ⟨rfl, h1⟩ | ⟨h1, h2, h3⟩
    · cases hp with
      | stop => exact .go h1 .stop
      | go e2 _ => simp [led] at e2
    · exact .go h3 (ih h2)
theorem led_end {v d : Nat} (h : PathN (led g n v) n n d) : d = 0 := by
  cases h with
  | stop => rfl
  | go e2 _ => simp [led] at e2
/-- Ways to v are ways to n. -/
theorem led_lex (hg : ∀ x, ∀ t ∈ g x, t < n) {v x : Nat} {l : List Nat} (hv : v < n) (h : Lex g v x l) : x < n → Lex (led g n v) n (if x = v then n else x) (l.dropLast ++ [n]) := by
  induction h with
  | stop =>
    intro _
    rw [if_pos rfl]
    exact .stop
  | @go x y l hne e hl hmin ih =>
    intro hx
    have hy := hg x y e
    have hpos := hl.pos
    have hd : (x :: l).dropLast ++ [n] = x :: (l.dropLast ++ [n]) := by
      obtain ⟨l', rfl⟩ := hl.head
      simp
    have hlen : (l.dropLast ++ [n]).length = l.length := by simp; omega
    rw [if_neg hne, hd]
    refine .go (by omega) ((led_mem hg hx).2 ?_) (ih hy) fun t ht d hp => ?_
    · by_cases hyv : y = v
      · subst hyv; exact .inl ⟨by rw [if_pos rfl], e⟩
      · exact .inr ⟨by rw [if_neg hyv]; exact hyv, by rw [if_neg hyv]; exact hy, by rw [if_neg hyv]; exact e⟩
    · rw [hlen]
      rcases (led_mem hg hx).1 ht with ⟨rfl, h1⟩ | ⟨h1, h2, h3⟩
      · have := led_end hp
        subst this
        have h2 := (hmin v h1 0 .stop)
        refine ⟨h2.1, fun _ => ?_⟩
        split <;> omega
      · have h4 := hmin t h3 d (led_path hg hp h2)
        refine ⟨h4.1, fun he => ?_⟩
        split
        · rename_i hyv
          subst hyv
          cases hl with
          | stop =>
            simp at he
            subst he
            cases hp
            omega
          | go hne2 => exact absurd rfl hne2
        · exact h4.2 he
/-- The loop of v: the nearest vertex to which an arrow of v leads, the least of them, and the way from it. -/
theorem led_loop (hg : ∀ x, ∀ t ∈ g x, t < n) {v y : Nat} {l : List Nat} (hv : v < n) (e : y ∈ g v) (hl : Lex g v y l) (hmin : ∀ t ∈ g v, ∀ d, PathN g v t d → l.length ≤ d + 1 ∧ (d + 1 = l.length → y ≤ t)) :
    Lex (led g n v) n v (v :: (l.dropLast ++ [n])) := by
  have hy := hg v y e
  have hlen : (l.dropLast ++ [n]).length = l.length := by have := hl.pos; simp; omega
  refine .go (by omega) ((led_mem hg hv).2 ?_) (led_lex hg hv hl hy) fun t ht d hp => ?_
  · by_cases hyv : y = v
    · subst hyv; exact .inl ⟨by rw [if_pos rfl], e⟩
    · exact .inr ⟨by rw [if_neg hyv]; exact hyv, by rw [if_neg hyv]; exact hy, by rw [if_neg hyv]; exact e⟩
  · rw [hlen]
    rcases (led_mem hg hv).1 ht with ⟨rfl, h1⟩ | ⟨h1, h2, h3⟩
    · have := led_end hp
      subst this
      have h2 := hmin v h1 0 .stop
      refine ⟨h2.1, fun _ => ?_⟩
      split <;> omega
    · have h4 := hmin t h3 d (led_path hg hp h2)
      refine ⟨h4.1, fun he => ?_⟩
      split
      · rename_i hyv
        subst hyv
        have h5 := hmin y e 0 .stop
        have := hl.pos
        have hd0 : d = 0 := by omega
        subst hd0
        cases hp
        omega
      · exact h4.2 he
theorem led_reach (hg : ∀ x, ∀ t ∈ g x, t < n) {v : Nat} (hv : v < n) (h : Reach (Arr (led g n v)) v n) : ∃ t, t ∈ g v ∧ Reach (Arr g) t v := by
  obtain ⟨d, hd⟩ := PathN.of_reach h
  have h1 := led_path hg hd hv
  cases hd with
  | stop => omega
  | go e hp =>
    rcases (led_mem hg hv).1 e with ⟨rfl, h2⟩ | ⟨h2, h3, h4⟩
    · exact ⟨v, h2, .refl _⟩
    · exact ⟨_, h4, (led_path hg hp h3).reach⟩
end Go.Proofs.YtapebbejdgeijaaDoor.Tar
