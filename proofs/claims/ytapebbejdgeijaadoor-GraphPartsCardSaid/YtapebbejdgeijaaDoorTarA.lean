/- Plain law: a depth first search with two numbers a vertex finds the parts of a graph (no program in sight). -/
namespace Go.Proofs.YtapebbejdgeijaaDoor.Tar

inductive Reach (E : Nat → Nat → Prop) : Nat → Nat → Prop
  | refl (a : Nat) : Reach E a a
  | step {a b c : Nat} : Reach E a b → E b c → Reach E a c
theorem Reach.trans {E : Nat → Nat → Prop} {a b c : Nat} (h : Reach E a b) (k : Reach E b c) : Reach E a c := by
  induction k with
  | refl => exact h
  | step _ e ih => exact .step ih e
theorem Reach.one {E : Nat → Nat → Prop} {a b : Nat} (h : E a b) : Reach E a b := .step (.refl a) h

abbrev Arr (g : Nat → List Nat) (a b : Nat) : Prop := b ∈ g a
abbrev Both (g : Nat → List Nat) (a b : Nat) : Prop := Reach (Arr g) a b ∧ Reach (Arr g) b a

def upd {α : Type} (f : Nat → α) (k : Nat) (x : α) (j : Nat) : α := if j = k then x else f j
@[simp] theorem upd_same {α : Type} (f : Nat → α) (k : Nat) (x : α) : upd f k x k = x := by simp [upd]
theorem upd_ne {α : Type} (f : Nat → α) (k : Nat) (x : α) {j : Nat} (h : j ≠ k) : upd f k x j = f j := by simp [upd, h]

structure St where
  low : Nat → Nat
  found : Nat → Nat
  part : Nat → Int
  open' : List Nat
  calls : List (Nat × Nat)
  time : Nat

def St.enter (s : St) (v : Nat) : St :=
  { s with time := s.time + 1, low := upd s.low v (s.time + 1), found := upd s.found v (s.time + 1), open' := v :: s.open', calls := (v, 0) :: s.calls }

def closeL (v : Nat) : List Nat → (Nat → Int) → List Nat × (Nat → Int)
  | [], p => ([], p)
  | t :: o, p => if t = v then (o, upd p t v) else closeL v o (upd p t v)

def St.leave (s : St) : St :=
  match s.calls with
  | [] => s
  | (v, _) :: cs =>
    let low := match cs with | [] => s.low | (u, _) :: _ => upd s.low u (min (s.low u) (s.low v))
    if low v ≠ s.found v then { s with calls := cs, low := low }
    else { s with calls := cs, low := low, open' := (closeL v s.open' s.part).1, part := (closeL v s.open' s.part).2 }

def St.step (g : Nat → List Nat) (s : St) : St :=
  match s.calls with
  | [] => s
  | (v, i) :: cs =>
    match (g v)[i]? with
    | none => s.leave
    | some t =>
      if s.found t = 0 then St.enter { s with calls := (v, i + 1) :: cs } t
      else if s.part t < 0 then { s with calls := (v, i + 1) :: cs, low := upd s.low v (min (s.low v) (s.found t)) }
      else { s with calls := (v, i + 1) :: cs }

def St.onC (s : St) (v : Nat) : Prop := ∃ i, (v, i) ∈ s.calls
/-- The arrow from v to t has been gone through. -/
def St.proc (g : Nat → List Nat) (s : St) (v t : Nat) : Prop := (∃ i, (v, i) ∈ s.calls ∧ t ∈ (g v).take i) ∨ (¬ s.onC v ∧ t ∈ g v)

structure Inv (g : Nat → List Nat) (n : Nat) (s : St) : Prop where
  fle : ∀ v, s.found v ≤ s.time
  rng : ∀ v, s.found v ≠ 0 → v < n
  finj : ∀ u v, s.found u = s.found v → s.found u ≠ 0 → u = v
  opn : ∀ v, v ∈ s.open' ↔ s.found v ≠ 0 ∧ s.part v < 0
  cls : ∀ v, 0 ≤ s.part v → s.found v ≠ 0
  srt : s.open'.Pairwise (fun a b => s.found b < s.found a)
  csrt : s.calls.Pairwise (fun a b => s.found b.1 < s.found a.1)
  cop : ∀ v, s.onC v → v ∈ s.open'
  prc : ∀ v t, s.found v ≠ 0 → s.proc g v t → s.found t ≠ 0
  clo : ∀ v, 0 ≤ s.part v → ∀ t ∈ g v, 0 ≤ s.part t
  lle : ∀ v ∈ s.open', s.low v ≤ s.found v
  lw : ∀ v ∈ s.open', ∃ w ∈ s.open', s.found w = s.low v ∧ Reach (Arr g) v w
  llt : ∀ v ∈ s.open', ¬ s.onC v → s.low v < s.found v
  rch : ∀ c, s.onC c → ∀ x ∈ s.open', s.found c ≤ s.found x → Reach (Arr g) c x
  lp : ∀ c, s.onC c → ∀ x ∈ s.open', s.found c ≤ s.found x → (∀ c', s.onC c' → s.found c < s.found c' → s.found x < s.found c') → s.low c ≤ s.low x
  larr : ∀ v ∈ s.open', ∀ t ∈ s.open', s.proc g v t → s.low v ≤ s.found t
  p1 : ∀ v, 0 ≤ s.part v → ∃ r : Nat, s.part v = r ∧ s.part r = r ∧ Both g v r
  p2 : ∀ u v, 0 ≤ s.part u → 0 ≤ s.part v → Both g u v → s.part u = s.part v

def St.init : St := ⟨fun _ => 0, fun _ => 0, fun _ => -1, [], [], 0⟩
theorem Inv.init (g : Nat → List Nat) (n : Nat) : Inv g n St.init := by
  constructor <;> simp [St.init, St.onC, St.proc] 

variable {g : Nat → List Nat} {n : Nat} {s : St}

/-- A closed vertex leads to closed ones alone. -/
theorem Inv.clo_reach (h : Inv g n s) {a b : Nat} (hr : Reach (Arr g) a b) (ha : 0 ≤ s.part a) : 0 ≤ s.part b := by
  induction hr with
  | refl => exact ha
  | step _ e ih => exact h.clo _ ih _ e

/-- Where no call is open, no vertex is. -/
theorem Inv.none_open (h : Inv g n s) (hc : s.calls = []) : s.open' = [] := by
  have key : ∀ k v, v ∈ s.open' → s.found v ≤ k → False := by
    intro k
    induction k with
    | zero =>
      intro v hv hk
      have := ((h.opn v).1 hv).1
      omega
    | succ k ih =>
      intro v hv hk
      have hno : ¬ s.onC v := by simp [St.onC, hc]
      have h1 := h.llt v hv hno
      obtain ⟨w, hw, hf, _⟩ := h.lw v hv
      exact ih w hw (by omega)
  cases ho : s.open' with
  | nil => rfl
  | cons a l => exact (key _ a (by rw [ho]; simp) (Nat.le_refl _)).elim


theorem take_more {l : List Nat} {i t x : Nat} (h : l[i]? = some t) : x ∈ l.take (i + 1) ↔ x ∈ l.take i ∨ x = t := by
  obtain ⟨hi, rfl⟩ := List.getElem?_eq_some_iff.1 h
  rw [List.take_succ_eq_append_getElem hi, List.mem_append, List.mem_singleton]

/-- What the calls say behind the entering of t. -/
structure Entered (g : Nat → List Nat) (s : St) (C : List (Nat × Nat)) (t : Nat) : Prop where
  on : ∀ v, (∃ i, (v, i) ∈ C) ↔ s.onC v
  srt : C.Pairwise (fun a b => s.found b.1 < s.found a.1)
  proc : ∀ v x, s.found v ≠ 0 → ((∃ i, (v, i) ∈ C ∧ x ∈ (g v).take i) ∨ (¬ s.onC v ∧ x ∈ g v)) → s.proc g v x ∨ (x = t ∧ s.onC v ∧ t ∈ g v)
  top : ∀ v, s.onC v → Reach (Arr g) v t

theorem Inv.enter (h : Inv g n s) {t : Nat} {C : List (Nat × Nat)} (ht : s.found t = 0) (htn : t < n) (hC : Entered g s C t) : Inv g n (St.enter { s with calls := C } t) := by
  have hto : ¬ t ∈ s.open' := fun hm => ((h.opn t).1 hm).1 ht
  have htc : ¬ s.onC t := fun hm => hto (h.cop t hm)
  have htp : s.part t < 0 := by
    apply Int.not_le.1
    intro hp
    exact h.cls t hp ht
  have on' : ∀ v, (St.enter { s with calls := C } t).onC v ↔ v = t ∨ s.onC v := by
    intro v
    rw [← hC.on]
    simp only [St.onC, St.enter, List.mem_cons, Prod.mk.injEq]
    constructor
    · rintro ⟨i, ⟨rfl, rfl⟩ | hi⟩
      · exact .inl rfl
      · exact .inr ⟨i, hi⟩
    · rintro (rfl | ⟨i, hi⟩)
      · exact ⟨0, .inl ⟨rfl, rfl⟩⟩
      · exact ⟨i, .inr hi⟩
  have proc' : ∀ v x, v ≠ t → s.found v ≠ 0 → (St.enter { s with calls := C } t).proc g v x → s.proc g v x ∨ (x = t ∧ s.onC v ∧ t ∈ g v) := by
    intro v x hv hf hp
    apply hC.proc v x hf
    rcases hp with ⟨i, hi, hx⟩ | ⟨hn, hx⟩
    · left
      simp only [St.enter, List.mem_cons, Prod.mk.injEq] at hi
      rcases hi with ⟨rfl, _⟩ | hi
      · exact absurd rfl hv
      · exact ⟨i, hi, hx⟩
    · right
      rw [on'] at hn
      exact ⟨fun hh => hn (.inr hh), hx⟩
  have procT : ∀ x, ¬ (St.enter { s with calls := C } t).proc g t x := by
    intro x hp
    rcases hp with ⟨i, hi, hx⟩ | ⟨hn, hx⟩
    · simp only [St.enter, List.mem_cons, Prod.mk.injEq, true_and] at hi
      rcases hi with rfl | hi
      · simp at hx
      · exact htc ((hC.on t).1 ⟨i, hi⟩)
    · exact hn ((on' t).2 (.inl rfl))
  have f' : ∀ v, (St.enter { s with calls := C } t).found v = if v = t then s.time + 1 else s.found v := fun v => rfl
  have l' : ∀ v, (St.enter { s with calls := C } t).low v = if v = t then s.time + 1 else s.low v := fun v => rfl
  have o' : ∀ v, v ∈ (St.enter { s with calls := C } t).open' ↔ v = t ∨ v ∈ s.open' := fun v => List.mem_cons
  have p' : (St.enter { s with calls := C } t).part = s.part := rfl
  have c' : (St.enter { s with calls := C } t).calls = (t, 0) :: C := rfl
  have oo' : (St.enter { s with calls := C } t).open' = t :: s.open' := rfl
  have t' : (St.enter { s with calls := C } t).time = s.time + 1 := rfl
  generalize St.enter { s with calls := C } t = s' at *
  have fle := h.fle
  have finj := h.finj
  have opn := h.opn
  have lle := h.lle
  have hmem : ∀ v, v ∈ s.open' → v ≠ t := fun v hv e => hto (e ▸ hv)
  constructor
  · intro v; have := fle v; rw [f', t']; split <;> omega
  · intro v; have := h.rng v; grind
  · intro u v; have := fle u; have := fle v; have := finj u v; grind
  · intro v; have := opn v; grind
  · intro v; have := h.cls v; grind
  · rw [oo', List.pairwise_cons]
    refine ⟨fun a ha => ?_, h.srt.imp_of_mem fun {a b} ha hb hab => ?_⟩
    · have := fle a; have := hmem a ha; grind
    · have := hmem a ha; have := hmem b hb; grind
  · rw [c', List.pairwise_cons]
    have hct : ∀ a ∈ C, a.1 ≠ t := fun a ha e => htc ((hC.on t).1 ⟨a.2, by rw [← e]; exact ha⟩)
    refine ⟨fun a ha => ?_, hC.srt.imp_of_mem fun {a b} ha hb hab => ?_⟩
    · have := fle a.1; have := hct a ha; grind
    · have := hct a ha; have := hct b hb; grind
  · intro v hv; have := h.cop v; grind
  · intro v x hf hp
    by_cases hv : v = t
    · subst hv; exact absurd hp (procT x)
    · rw [f', if_neg hv] at hf
      rcases proc' v x hv hf hp with h1 | ⟨rfl, _⟩
      · have := h.prc v x hf h1; grind
      · grind
  · intro v; rw [p']; exact h.clo v
  · intro v hv; have := lle v; grind
  · intro v hv
    by_cases hvt : v = t
    · exact ⟨t, (o' t).2 (.inl rfl), by rw [f', l', if_pos rfl, if_pos hvt], hvt ▸ .refl _⟩
    · obtain ⟨w, hw, e, r⟩ := h.lw v (by grind)
      exact ⟨w, (o' w).2 (.inr hw), by have := hmem w hw; grind, r⟩
  · intro v hv hn
    rw [on'] at hn
    have := h.llt v (by grind) (by grind)
    grind
  · intro c hc x hx hle
    rw [on'] at hc
    rw [o'] at hx
    rcases hc with rfl | hc
    · rcases hx with rfl | hx
      · exact .refl _
      · have := fle x; have := hmem x hx; grind
    · rcases hx with rfl | hx
      · exact hC.top c hc
      · have h1 := hmem x hx
        have h2 := hmem c (h.cop c hc)
        exact h.rch c hc x hx (by grind)
  · intro c hc x hx hle hbt
    rw [on'] at hc
    rw [o'] at hx
    rcases hc with rfl | hc
    · rcases hx with rfl | hx
      · exact Nat.le_refl _
      · have := fle x; have := hmem x hx; grind
    · have h2 := hmem c (h.cop c hc)
      rcases hx with rfl | hx
      · have := hbt x ((on' x).2 (.inl rfl)) (by have := fle c; grind)
        omega
      · have h1 := hmem x hx
        have := h.lp c hc x hx (by grind) (fun c2 h3 h4 => by
          have h5 := hmem c2 (h.cop c2 h3)
          have := hbt c2 ((on' c2).2 (.inr h3)) (by grind)
          grind)
        grind
  · intro v hv x hx hp
    by_cases hvt : v = t
    · subst hvt; exact absurd hp (procT x)
    · have hv' : v ∈ s.open' := by grind
      rcases proc' v x hvt ((opn v).1 hv').1 hp with h1 | ⟨rfl, _⟩
      · by_cases hxt : x = t
        · have := lle v hv'; have := fle v; grind
        · have := h.larr v hv' x (by grind) h1
          grind
      · have := lle v hv'; have := fle v; grind
  · rw [p']; exact h.p1
  · rw [p']; exact h.p2

theorem Inv.enter_root (h : Inv g n s) {t : Nat} (hc : s.calls = []) (ht : s.found t = 0) (htn : t < n) : Inv g n (s.enter t) := by
  have h1 : Inv g n (St.enter { s with calls := [] } t) := h.enter ht htn ⟨by simp [St.onC, hc], List.Pairwise.nil, fun v x hf hp => by
    rcases hp with ⟨i, hi, _⟩ | ⟨h1, h2⟩
    · cases hi
    · exact .inl (.inr ⟨h1, h2⟩), fun v ⟨i, hi⟩ => by rw [hc] at hi; cases hi⟩
  rw [← hc] at h1
  exact h1

theorem Inv.bump_on {v i : Nat} {cs : List (Nat × Nat)} (hc : s.calls = (v, i) :: cs) (j x : Nat) : (∃ k, (x, k) ∈ (v, j) :: cs) ↔ s.onC x := by
  simp only [St.onC, hc, List.mem_cons, Prod.mk.injEq]
  constructor <;> rintro ⟨k, ⟨rfl, rfl⟩ | hk⟩
  · exact ⟨i, .inl ⟨rfl, rfl⟩⟩
  · exact ⟨k, .inr hk⟩
  · exact ⟨j, .inl ⟨rfl, rfl⟩⟩
  · exact ⟨k, .inr hk⟩

theorem Inv.top_le (h : Inv g n s) {v i : Nat} {cs : List (Nat × Nat)} (hc : s.calls = (v, i) :: cs) {c : Nat} (hcc : s.onC c) : s.found c ≤ s.found v := by
  obtain ⟨k, hk⟩ := hcc
  have := h.csrt
  rw [hc, List.pairwise_cons] at this
  rw [hc, List.mem_cons] at hk
  rcases hk with hk | hk
  · cases hk; exact Nat.le_refl _
  · exact Nat.le_of_lt (this.1 _ hk)

theorem Inv.bump_proc {v i t : Nat} {cs : List (Nat × Nat)} (hc : s.calls = (v, i) :: cs) (hi : (g v)[i]? = some t) (x y : Nat)
    (hp : (∃ k, (x, k) ∈ (v, i + 1) :: cs ∧ y ∈ (g x).take k) ∨ (¬ s.onC x ∧ y ∈ g x)) : s.proc g x y ∨ (y = t ∧ x = v) := by
  rcases hp with ⟨k, hk, hy⟩ | ⟨h1, h2⟩
  · rw [List.mem_cons] at hk
    rcases hk with hk | hk
    · cases hk
      rcases (take_more hi).1 hy with h1 | h1
      · exact .inl (.inl ⟨i, by rw [hc]; simp, h1⟩)
      · exact .inr ⟨h1, rfl⟩
    · exact .inl (.inl ⟨k, by rw [hc]; simp [hk], hy⟩)
  · exact .inl (.inr ⟨h1, h2⟩)

theorem Inv.bump_srt (h : Inv g n s) {v i : Nat} {cs : List (Nat × Nat)} (hc : s.calls = (v, i) :: cs) (j : Nat) : ((v, j) :: cs).Pairwise (fun a b => s.found b.1 < s.found a.1) := by
  have := h.csrt
  rw [hc, List.pairwise_cons] at this
  rw [List.pairwise_cons]
  exact this

theorem mem_at {l : List Nat} {i t : Nat} (h : l[i]? = some t) : t ∈ l := List.mem_of_getElem? h

theorem Inv.enter_step (h : Inv g n s) {v i t : Nat} {cs : List (Nat × Nat)} (hc : s.calls = (v, i) :: cs) (hi : (g v)[i]? = some t) (ht : s.found t = 0) (htn : t < n) :
    Inv g n (St.enter { s with calls := (v, i + 1) :: cs } t) := by
  refine h.enter ht htn ⟨Inv.bump_on hc _, h.bump_srt hc _, fun x y hf hp => ?_, fun c hcc => ?_⟩
  · rcases Inv.bump_proc hc hi x y hp with h1 | ⟨rfl, rfl⟩
    · exact .inl h1
    · exact .inr ⟨rfl, ⟨i, by rw [hc]; simp⟩, mem_at hi⟩
  · have hv : s.onC v := ⟨i, by rw [hc]; simp⟩
    exact .step (h.rch c hcc v (h.cop v hv) (h.top_le hc hcc)) (mem_at hi)

/-- An arrow to a vertex that is open. -/
theorem Inv.low_step (h : Inv g n s) {v i t : Nat} {cs : List (Nat × Nat)} (hc : s.calls = (v, i) :: cs) (hi : (g v)[i]? = some t) (ht : s.found t ≠ 0) (hp : s.part t < 0) :
    Inv g n { s with calls := (v, i + 1) :: cs, low := upd s.low v (min (s.low v) (s.found t)) } := by
  have hv : s.onC v := ⟨i, by rw [hc]; simp⟩
  have hvo := h.cop v hv
  have hto : t ∈ s.open' := (h.opn t).2 ⟨ht, hp⟩
  have on' : ∀ x, St.onC { s with calls := (v, i + 1) :: cs, low := upd s.low v (min (s.low v) (s.found t)) } x ↔ s.onC x := Inv.bump_on hc _
  have pr' : ∀ x y, St.proc g { s with calls := (v, i + 1) :: cs, low := upd s.low v (min (s.low v) (s.found t)) } x y → s.proc g x y ∨ (y = t ∧ x = v) := fun x y hp => by
    apply Inv.bump_proc hc hi x y
    rcases hp with hp | ⟨h1, h2⟩
    · exact .inl hp
    · rw [on'] at h1; exact .inr ⟨h1, h2⟩
  have l' : ∀ x, upd s.low v (min (s.low v) (s.found t)) x = if x = v then min (s.low v) (s.found t) else s.low x := fun x => rfl
  refine ⟨h.fle, h.rng, h.finj, h.opn, h.cls, h.srt, h.bump_srt hc _, fun x hx => h.cop x ((on' x).1 hx), fun x y hf hp => ?_, h.clo, fun x hx => ?_, fun x hx => ?_, fun x hx hn => ?_, fun c hcc => h.rch c ((on' c).1 hcc), fun c hcc x hx hle hbt => ?_, fun x hx y hy hp => ?_, h.p1, h.p2⟩
  · rcases pr' x y hp with h1 | ⟨rfl, rfl⟩
    · exact h.prc x y hf h1
    · exact ht
  · have := h.lle x hx
    simp only [l']
    grind
  · simp only [l']
    by_cases hxv : x = v
    · subst hxv
      rw [if_pos rfl]
      rcases Nat.le_total (s.low x) (s.found t) with hle | hle
      · rw [Nat.min_eq_left hle]; exact h.lw x hx
      · rw [Nat.min_eq_right hle]; exact ⟨t, hto, rfl, .one (mem_at hi)⟩
    · rw [if_neg hxv]; exact h.lw x hx
  · rw [on'] at hn
    have := h.llt x hx hn
    simp only [l']
    grind
  · rw [on'] at hcc
    have h1 := h.lp c hcc x hx hle (fun c2 h2 => hbt c2 ((on' c2).2 h2))
    simp only [l']
    have hcx : c ≠ v → x ≠ v := fun hne hxv => by
      subst hxv
      have h3 := h.top_le hc hcc
      have h4 := h.finj c x
      have h5 := ((h.opn c).1 (h.cop c hcc)).1
      have h6 : s.found c < s.found x := by
        rcases Nat.lt_or_eq_of_le h3 with h7 | h7
        · exact h7
        · exact absurd (h4 h7 h5) hne
      have := hbt x ((on' x).2 hv) h6
      omega
    grind
  · rcases pr' x y hp with h1 | ⟨rfl, rfl⟩
    · have := h.larr x hx y hy h1
      simp only [l']
      grind
    · simp only [l']
      grind

/-- An arrow to a vertex that is closed. -/
theorem Inv.skip_step (h : Inv g n s) {v i t : Nat} {cs : List (Nat × Nat)} (hc : s.calls = (v, i) :: cs) (hi : (g v)[i]? = some t) (ht : s.found t ≠ 0) (hpt : ¬ s.part t < 0) :
    Inv g n { s with calls := (v, i + 1) :: cs } := by
  have on' : ∀ x, St.onC { s with calls := (v, i + 1) :: cs } x ↔ s.onC x := Inv.bump_on hc _
  have pr' : ∀ x y, St.proc g { s with calls := (v, i + 1) :: cs } x y → s.proc g x y ∨ (y = t ∧ x = v) := fun x y hp => by
    apply Inv.bump_proc hc hi x y
    rcases hp with hp | ⟨h1, h2⟩
    · exact .inl hp
    · rw [on'] at h1; exact .inr ⟨h1, h2⟩
  refine ⟨h.fle, h.rng, h.finj, h.opn, h.cls, h.srt, h.bump_srt hc _, fun x hx => h.cop x ((on' x).1 hx), fun x y hf hp => ?_, h.clo, h.lle, h.lw, fun x hx hn => h.llt x hx fun hh => hn ((on' x).2 hh), fun c hcc => h.rch c ((on' c).1 hcc), fun c hcc x hx hle hbt => h.lp c ((on' c).1 hcc) x hx hle fun c2 h2 => hbt c2 ((on' c2).2 h2), fun x hx y hy hp => ?_, h.p1, h.p2⟩
  · rcases pr' x y hp with h1 | ⟨rfl, rfl⟩
    · exact h.prc x y hf h1
    · exact ht
  · rcases pr' x y hp with h1 | ⟨rfl, rfl⟩
    · exact h.larr x hx y hy h1
    · exact absurd ((h.opn y).1 hy).2 hpt

theorem closeL_spec (f : Nat → Nat) (v : Nat) : ∀ (o : List Nat) (p : Nat → Int), v ∈ o → o.Pairwise (fun a b => f b < f a) →
    (∀ x, x ∈ (closeL v o p).1 ↔ x ∈ o ∧ f x < f v) ∧ (closeL v o p).1.Pairwise (fun a b => f b < f a) ∧ ∀ x, (closeL v o p).2 x = if x ∈ o ∧ f v ≤ f x then (v : Int) else p x
  | [], _, h, _ => by cases h
  | t :: o, p, h, hs => by
    rw [List.pairwise_cons] at hs
    unfold closeL
    by_cases htv : t = v
    · subst htv
      rw [if_pos rfl]
      refine ⟨fun x => ?_, hs.2, fun x => ?_⟩
      · have := hs.1 x; grind
      · have := hs.1 x; simp only [upd]; grind
    · rw [if_neg htv]
      have hv : v ∈ o := by grind
      obtain ⟨h1, h2, h3⟩ := closeL_spec f v o (upd p t v) hv hs.2
      have h4 := hs.1 v hv
      refine ⟨fun x => ?_, h2, fun x => ?_⟩
      · rw [h1]; grind
      · rw [h3]; simp only [upd]; grind

/-- The calls behind the end of the topmost one. -/
theorem Inv.pop_on (h : Inv g n s) {v i : Nat} {cs : List (Nat × Nat)} (hc : s.calls = (v, i) :: cs) (x : Nat) : (∃ k, (x, k) ∈ cs) ↔ s.onC x ∧ x ≠ v := by
  have hs := h.csrt
  rw [hc, List.pairwise_cons] at hs
  simp only [St.onC, hc, List.mem_cons, Prod.mk.injEq]
  constructor
  · rintro ⟨k, hk⟩
    refine ⟨⟨k, .inr hk⟩, fun e => ?_⟩
    have := hs.1 _ hk
    simp [e] at this
  · rintro ⟨⟨k, ⟨rfl, rfl⟩ | hk⟩, hne⟩
    · exact absurd rfl hne
    · exact ⟨k, hk⟩
theorem Inv.pop_proc {v i : Nat} {cs : List (Nat × Nat)} (hc : s.calls = (v, i) :: cs) (hi : (g v)[i]? = none) (x y : Nat)
    (hp : (∃ k, (x, k) ∈ cs ∧ y ∈ (g x).take k) ∨ (¬ (s.onC x ∧ x ≠ v) ∧ y ∈ g x)) : s.proc g x y := by
  rcases hp with ⟨k, hk, hy⟩ | ⟨h1, h2⟩
  · exact .inl ⟨k, by rw [hc]; simp [hk], hy⟩
  · by_cases hx : x = v
    · subst hx
      exact .inl ⟨i, by rw [hc]; simp, by rw [List.take_of_length_le (List.getElem?_eq_none_iff.1 hi)]; exact h2⟩
    · exact .inr ⟨fun hh => h1 ⟨hh, hx⟩, h2⟩

/-- The numbers behind the end of v, whose caller is the topmost of cs. -/
def lowUp (s : St) (v : Nat) (cs : List (Nat × Nat)) : Nat → Nat := match cs with | [] => s.low | (u, _) :: _ => upd s.low u (min (s.low u) (s.low v))

theorem Inv.lowUp_at (h : Inv g n s) {v i : Nat} {cs : List (Nat × Nat)} (hc : s.calls = (v, i) :: cs) :
    (∀ x, lowUp s v cs x = s.low x ∨ (lowUp s v cs x = min (s.low x) (s.low v) ∧ s.onC x ∧ s.found x < s.found v ∧ ∀ c, s.onC c → c ≠ v → s.found c ≤ s.found x)) ∧
    (∀ u, s.onC u → u ≠ v → (∀ c, s.onC c → c ≠ v → s.found c ≤ s.found u) → lowUp s v cs u = min (s.low u) (s.low v)) := by
  have hs := h.csrt
  have hp := h.pop_on hc
  rw [hc, List.pairwise_cons] at hs
  cases cs with
  | nil =>
    refine ⟨fun x => .inl rfl, fun u hu hne _ => ?_⟩
    obtain ⟨k, hk⟩ := (hp u).2 ⟨hu, hne⟩
    cases hk
  | cons a cs =>
    obtain ⟨u, k⟩ := a
    have hu := (hp u).1 ⟨k, by simp⟩
    have hlt : s.found u < s.found v := hs.1 (u, k) (by simp)
    have htop : ∀ c, s.onC c → c ≠ v → s.found c ≤ s.found u := fun c hcc hne => by
      obtain ⟨j, hj⟩ := (hp c).2 ⟨hcc, hne⟩
      rw [List.mem_cons] at hj
      rcases hj with hj | hj
      · cases hj; exact Nat.le_refl _
      · exact Nat.le_of_lt ((List.pairwise_cons.1 hs.2).1 _ hj)
    refine ⟨fun x => ?_, fun x hx hne hmax => ?_⟩
    · by_cases hxu : x = u
      · subst hxu
        exact .inr ⟨by simp [lowUp], hu.1, hlt, htop⟩
      · exact .inl (by simp [lowUp, upd, hxu])
    · have h1 := hmax u hu.1 hu.2
      have h2 := htop x hx hne
      have hf := ((h.opn x).1 (h.cop x hx)).1
      obtain rfl := h.finj x u (by omega) hf
      simp [lowUp]

theorem Inv.leave_open (h : Inv g n s) {v i : Nat} {cs : List (Nat × Nat)} (hc : s.calls = (v, i) :: cs) (hi : (g v)[i]? = none) (hne : lowUp s v cs v ≠ s.found v) :
    Inv g n { s with calls := cs, low := lowUp s v cs } := by
  obtain ⟨hl1, hl2⟩ := h.lowUp_at hc
  have hv : s.onC v := ⟨i, by rw [hc]; simp⟩
  have hvo := h.cop v hv
  have on' : ∀ x, St.onC { s with calls := cs, low := lowUp s v cs } x ↔ s.onC x ∧ x ≠ v := h.pop_on hc
  have pr' : ∀ x y, St.proc g { s with calls := cs, low := lowUp s v cs } x y → s.proc g x y := fun x y hp => by
    apply Inv.pop_proc hc hi x y
    rcases hp with hp | ⟨h1, h2⟩
    · exact .inl hp
    · rw [on'] at h1; exact .inr ⟨h1, h2⟩
  have hle : ∀ x, lowUp s v cs x ≤ s.low x := fun x => by rcases hl1 x with e | ⟨e, _⟩ <;> omega
  have hlv : lowUp s v cs v = s.low v := by
    rcases hl1 v with e | ⟨_, _, e, _⟩
    · exact e
    · omega
  have hsrt : cs.Pairwise (fun a b => s.found b.1 < s.found a.1) := by
    have hs := h.csrt
    rw [hc, List.pairwise_cons] at hs
    exact hs.2
  have htop : ∀ c, s.onC c → s.found c ≤ s.found v := fun c hcc => h.top_le hc hcc
  refine ⟨h.fle, h.rng, h.finj, h.opn, h.cls, h.srt, hsrt, fun x hx => h.cop x ((on' x).1 hx).1, fun x y hf hp => h.prc x y hf (pr' x y hp), h.clo, fun x hx => ?_, fun x hx => ?_, fun x hx hn => ?_, fun c hcc => h.rch c ((on' c).1 hcc).1, fun c hcc x hx hfle hbt => ?_, fun x hx y hy hp => ?_, h.p1, h.p2⟩
  · exact Nat.le_trans (hle x) (h.lle x hx)
  · show ∃ w ∈ s.open', s.found w = lowUp s v cs x ∧ _
    rcases hl1 x with e | ⟨e, hon, hlt, _⟩
    · rw [e]; exact h.lw x hx
    · rw [e]
      rcases Nat.le_total (s.low x) (s.low v) with hle | hle
      · rw [Nat.min_eq_left hle]; exact h.lw x hx
      · rw [Nat.min_eq_right hle]
        obtain ⟨w, hw, e1, r⟩ := h.lw v hvo
        exact ⟨w, hw, e1, (h.rch x hon v hvo (Nat.le_of_lt hlt)).trans r⟩
  · rw [on'] at hn
    show lowUp s v cs x < s.found x
    by_cases hxv : x = v
    · subst hxv
      have := h.lle x hvo
      omega
    · exact Nat.lt_of_le_of_lt (hle x) (h.llt x hx fun hh => hn ⟨hh, hxv⟩)
  · rw [on'] at hcc
    show lowUp s v cs c ≤ lowUp s v cs x
    have hbt' : ∀ c2, s.onC c2 → c2 ≠ v → s.found c < s.found c2 → s.found x < s.found c2 := fun c2 h2 h3 => hbt c2 ((on' c2).2 ⟨h2, h3⟩)
    have hfc := ((h.opn c).1 (h.cop c hcc.1)).1
    by_cases hcase : s.found c < s.found v → s.found x < s.found v
    · have h1 := h.lp c hcc.1 x hx hfle fun c2 h2 h3 => by
        by_cases h4 : c2 = v
        · subst h4; exact hcase h3
        · exact hbt' c2 h2 h4 h3
      rcases hl1 x with e | ⟨e, hon, hlt, hmax⟩
      · rw [e]; exact Nat.le_trans (hle c) h1
      · have h5 : ¬ s.found c < s.found x := fun h6 => by
          have := hbt' x hon (fun e => by subst e; omega) h6
          omega
        obtain rfl := h.finj c x (by have : s.found c ≤ s.found x := hfle; omega) hfc
        exact Nat.le_refl _
    · have hcv : s.found c < s.found v := by omega
      have hxv : s.found v ≤ s.found x := by omega
      have hmax : ∀ c2, s.onC c2 → c2 ≠ v → s.found c2 ≤ s.found c := fun c2 h2 h3 => by
        apply Nat.le_of_not_lt
        intro h4
        have := hbt' c2 h2 h3 h4
        have := htop c2 h2
        omega
      rw [hl2 c hcc.1 hcc.2 hmax]
      have h1 := h.lp v hv x hx hxv fun c2 h2 h3 => by have := htop c2 h2; omega
      rcases hl1 x with e | ⟨_, _, hlt, _⟩
      · rw [e]; omega
      · omega
  · exact Nat.le_trans (hle x) (h.larr x hx y hy (pr' x y hp))

theorem Inv.leave_close (h : Inv g n s) {v i : Nat} {cs : List (Nat × Nat)} (hc : s.calls = (v, i) :: cs) (hi : (g v)[i]? = none) (heq : lowUp s v cs v = s.found v) :
    Inv g n { s with calls := cs, low := lowUp s v cs, open' := (closeL v s.open' s.part).1, part := (closeL v s.open' s.part).2 } := by
  obtain ⟨hl1, hl2⟩ := h.lowUp_at hc
  have hv : s.onC v := ⟨i, by rw [hc]; simp⟩
  have hvo := h.cop v hv
  obtain ⟨ho, hsrt', hpt⟩ := closeL_spec s.found v s.open' s.part hvo h.srt
  generalize (closeL v s.open' s.part).1 = O at *
  generalize (closeL v s.open' s.part).2 = P at *
  have htop : ∀ c, s.onC c → s.found c ≤ s.found v := fun c hcc => h.top_le hc hcc
  have hlv : s.low v = s.found v := by
    rcases hl1 v with e | ⟨_, _, e, _⟩
    · omega
    · omega
  have hlo : ∀ x, lowUp s v cs x = s.low x := fun x => by
    rcases hl1 x with e | ⟨e, hon, hlt, _⟩
    · exact e
    · have := h.lle x (h.cop x hon); omega
  have on' : ∀ x, St.onC { s with calls := cs, low := lowUp s v cs, open' := O, part := P } x ↔ s.onC x ∧ x ≠ v := h.pop_on hc
  have pr' : ∀ x y, St.proc g { s with calls := cs, low := lowUp s v cs, open' := O, part := P } x y → s.proc g x y := fun x y hp => by
    apply Inv.pop_proc hc hi x y
    rcases hp with hp | ⟨h1, h2⟩
    · exact .inl hp
    · rw [on'] at h1; exact .inr ⟨h1, h2⟩
  have hcsrt : cs.Pairwise (fun a b => s.found b.1 < s.found a.1) := by
    have hs := h.csrt
    rw [hc, List.pairwise_cons] at hs
    exact hs.2
  -- what is popped
  have lowge : ∀ x, x ∈ s.open' → s.found v ≤ s.found x → s.found v ≤ s.low x := fun x hx hxv => by
    have := h.lp v hv x hx hxv fun c2 h2 h3 => by have := htop c2 h2; omega
    omega
  have hnon : ∀ x, x ∈ s.open' → s.found v ≤ s.found x → x ≠ v → ¬ s.onC x := fun x hx hxv hne hon => by
    have h1 := htop x hon
    exact hne (h.finj x v (by omega) ((h.opn x).1 hx).1)
  have allproc : ∀ x, x ∈ s.open' → s.found v ≤ s.found x → ∀ y ∈ g x, s.proc g x y := fun x hx hxv y hy => by
    by_cases hne : x = v
    · subst hne
      exact .inl ⟨i, by rw [hc]; simp, by rw [List.take_of_length_le (List.getElem?_eq_none_iff.1 hi)]; exact hy⟩
    · exact .inr ⟨hnon x hx hxv hne, hy⟩
  have back : ∀ k x, x ∈ s.open' → s.found v ≤ s.found x → s.found x ≤ k → Reach (Arr g) x v := by
    intro k
    induction k with
    | zero =>
      intro x hx hxv hk
      have := ((h.opn x).1 hx).1
      omega
    | succ k ih =>
      intro x hx hxv hk
      by_cases hne : x = v
      · subst hne; exact .refl _
      · have h1 := h.llt x hx (hnon x hx hxv hne)
        obtain ⟨w, hw, e, r⟩ := h.lw x hx
        have h2 := lowge x hx hxv
        exact r.trans (ih w hw (by omega) (by omega))
  have forth : ∀ x, x ∈ s.open' → s.found v ≤ s.found x → Reach (Arr g) v x := fun x hx hxv => h.rch v hv x hx hxv
  have hclo : ∀ x, 0 ≤ P x → ∀ t ∈ g x, 0 ≤ P t := fun x hx t ht => by
    rw [hpt] at hx
    rw [hpt]
    split
    · omega
    · rename_i hno
      split at hx
      · rename_i hyes
        have h1 := allproc x hyes.1 hyes.2 t ht
        have h2 := h.prc x t ((h.opn x).1 hyes.1).1 h1
        apply Int.not_lt.1
        intro h3
        have h4 : t ∈ s.open' := (h.opn t).2 ⟨h2, h3⟩
        have h5 := h.larr x hyes.1 t h4 h1
        have h6 := lowge x hyes.1 hyes.2
        exact hno ⟨h4, by omega⟩
      · exact h.clo x hx t ht
  have hreachP : ∀ a b, Reach (Arr g) a b → 0 ≤ s.part a → 0 ≤ s.part b := fun a b r ha => h.clo_reach r ha
  refine ⟨h.fle, h.rng, h.finj, fun x => ?_, fun x hx => ?_, hsrt', hcsrt, fun x hx => ?_, fun x y hf hp => h.prc x y hf (pr' x y hp), hclo, fun x hx => ?_, fun x hx => ?_, fun x hx hn => ?_, fun c hcc x hx => h.rch c ((on' c).1 hcc).1 x ((ho x).1 hx).1, fun c hcc x hx hfle hbt => ?_, fun x hx y hy hp => ?_, fun x hx => ?_, fun x y hx hy hb => ?_⟩
  · show x ∈ O ↔ s.found x ≠ 0 ∧ P x < 0
    rw [ho, hpt]
    have := h.opn x
    grind
  · have hx' : 0 ≤ P x := hx
    rw [hpt] at hx'
    split at hx'
    · rename_i hyes; exact ((h.opn x).1 hyes.1).1
    · exact h.cls x hx'
  · obtain ⟨h1, h2⟩ := (on' x).1 hx
    refine (ho x).2 ⟨h.cop x h1, ?_⟩
    have h3 := htop x h1
    rcases Nat.lt_or_eq_of_le h3 with h4 | h4
    · exact h4
    · exact absurd (h.finj x v h4 ((h.opn x).1 (h.cop x h1)).1) h2
  · show lowUp s v cs x ≤ s.found x
    rw [hlo]
    exact h.lle x ((ho x).1 hx).1
  · show ∃ w ∈ O, s.found w = lowUp s v cs x ∧ _
    rw [hlo]
    have hx' := (ho x).1 hx
    obtain ⟨w, hw, e, r⟩ := h.lw x hx'.1
    have := h.lle x hx'.1
    exact ⟨w, (ho w).2 ⟨hw, by omega⟩, e, r⟩
  · rw [on'] at hn
    show lowUp s v cs x < s.found x
    rw [hlo]
    have hx' := (ho x).1 hx
    exact h.llt x hx'.1 fun hh => hn ⟨hh, fun e => by subst e; omega⟩
  · show lowUp s v cs c ≤ lowUp s v cs x
    rw [hlo, hlo]
    rw [on'] at hcc
    have hx' := (ho x).1 hx
    refine h.lp c hcc.1 x hx'.1 hfle fun c2 h2 h3 => ?_
    by_cases h4 : c2 = v
    · subst h4; exact hx'.2
    · exact hbt c2 ((on' c2).2 ⟨h2, h4⟩) h3
  · show lowUp s v cs x ≤ s.found y
    rw [hlo]
    exact h.larr x ((ho x).1 hx).1 y ((ho y).1 hy).1 (pr' x y hp)
  · show ∃ r : Nat, P x = r ∧ P r = r ∧ _
    have hx' : 0 ≤ P x := hx
    by_cases hyes : x ∈ s.open' ∧ s.found v ≤ s.found x
    · refine ⟨v, by rw [hpt, if_pos hyes], by rw [hpt, if_pos ⟨hvo, Nat.le_refl _⟩], back _ x hyes.1 hyes.2 (Nat.le_refl _), forth x hyes.1 hyes.2⟩
    · rw [hpt, if_neg hyes] at hx'
      obtain ⟨r, h1, h2, h3⟩ := h.p1 x hx'
      have h4 : ¬ (r ∈ s.open' ∧ s.found v ≤ s.found r) := fun h5 => by have := ((h.opn r).1 h5.1).2; omega
      exact ⟨r, by rw [hpt, if_neg hyes, h1], by rw [hpt, if_neg h4, h2], h3⟩
  · show P x = P y
    have hx' : 0 ≤ P x := hx
    have hy' : 0 ≤ P y := hy
    have key : ∀ a b, Both g a b → (a ∈ s.open' ∧ s.found v ≤ s.found a) → 0 ≤ P b → (b ∈ s.open' ∧ s.found v ≤ s.found b) := fun a b hb ha hPb => by
      apply Classical.byContradiction
      intro hno
      rw [hpt, if_neg hno] at hPb
      have h1 := hreachP b a hb.2 hPb
      have h2 := ((h.opn a).1 ha.1).2
      omega
    by_cases hyes : x ∈ s.open' ∧ s.found v ≤ s.found x
    · rw [hpt, hpt, if_pos hyes, if_pos (key x y hb hyes hy')]
    · have hno : ¬ (y ∈ s.open' ∧ s.found v ≤ s.found y) := fun hh => hyes (key y x ⟨hb.2, hb.1⟩ hh hx')
      rw [hpt, if_neg hyes] at hx' ⊢
      rw [hpt, if_neg hno] at hy' ⊢
      exact h.p2 x y hx' hy' hb

theorem Inv.step (h : Inv g n s) (hg : ∀ v, ∀ t ∈ g v, t < n) : Inv g n (s.step g) := by
  unfold St.step
  cases hc : s.calls with
  | nil => exact h
  | cons a cs =>
    obtain ⟨v, i⟩ := a
    dsimp only
    cases hi : (g v)[i]? with
    | none =>
      dsimp only
      unfold St.leave
      rw [hc]
      dsimp only
      by_cases hne : lowUp s v cs v = s.found v
      · have e : ¬ (lowUp s v cs v ≠ s.found v) := fun hh => hh hne
        have := h.leave_close hc hi hne
        unfold lowUp at e this
        rw [if_neg e]
        exact this
      · have := h.leave_open hc hi hne
        unfold lowUp at hne this
        rw [if_pos hne]
        exact this
    | some t =>
      dsimp only
      have htn := hg v t (mem_at hi)
      by_cases hf : s.found t = 0
      · rw [if_pos hf]; exact h.enter_step hc hi hf htn
      · rw [if_neg hf]
        by_cases hp : s.part t < 0
        · rw [if_pos hp]; exact h.low_step hc hi hf hp
        · rw [if_neg hp]; exact h.skip_step hc hi hf hp
end Go.Proofs.YtapebbejdgeijaaDoor.Tar
