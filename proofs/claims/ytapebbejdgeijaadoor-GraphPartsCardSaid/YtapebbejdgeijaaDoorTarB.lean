/- Plain law: the search ends, its numbers are small; what it leaves; the numbering of parts. -/
import Derived.Test.YtapebbejdgeijaaDoorTarA
namespace Go.Proofs.YtapebbejdgeijaaDoor.Tar

def sumN (f : Nat → Nat) : Nat → Nat
  | 0 => 0
  | k + 1 => sumN f k + f k
theorem sumN_upd (f f' : Nat → Nat) (t : Nat) : ∀ n, t < n → (∀ j, j ≠ t → f' j = f j) → sumN f' n + f t = sumN f n + f' t
  | 0, h, _ => by omega
  | k + 1, h, he => by
    simp only [sumN]
    by_cases hk : t = k
    · subst hk
      have : ∀ m, m ≤ t → sumN f' m = sumN f m := by
        intro m
        induction m with
        | zero => intro _; rfl
        | succ m ih =>
          intro hm
          simp only [sumN]
          rw [ih (by omega), he m (by omega)]
      rw [this t (Nat.le_refl _)]
      omega
    · have := sumN_upd f f' t k (by omega) he
      rw [he k (by omega)]
      omega

def cntU (f : Nat → Nat) (n : Nat) : Nat := sumN (fun v => if f v = 0 then 1 else 0) n
def wgt (g : Nat → List Nat) (f : Nat → Nat) (n : Nat) : Nat := sumN (fun v => if f v = 0 then (g v).length + 2 else 0) n
def callW (g : Nat → List Nat) : List (Nat × Nat) → Nat
  | [] => 0
  | (v, i) :: cs => ((g v).length - i + 1) + callW g cs
def St.mu (g : Nat → List Nat) (n : Nat) (s : St) : Nat := wgt g s.found n + callW g s.calls

theorem cntU_upd {f : Nat → Nat} {n t x : Nat} (ht : f t = 0) (htn : t < n) (hx : x ≠ 0) : cntU (upd f t x) n + 1 = cntU f n := by
  have := sumN_upd (fun v => if f v = 0 then 1 else 0) (fun v => if upd f t x v = 0 then 1 else 0) t n htn (fun j hj => by simp [upd, hj])
  simp [ht, hx] at this
  exact this
theorem wgt_upd {g : Nat → List Nat} {f : Nat → Nat} {n t x : Nat} (ht : f t = 0) (htn : t < n) (hx : x ≠ 0) : wgt g (upd f t x) n + ((g t).length + 2) = wgt g f n := by
  have := sumN_upd (fun v => if f v = 0 then (g v).length + 2 else 0) (fun v => if upd f t x v = 0 then (g v).length + 2 else 0) t n htn (fun j hj => by simp [upd, hj])
  simp [ht, hx] at this
  exact this

structure Bnd (g : Nat → List Nat) (n : Nat) (s : St) : Prop where
  tm : s.time + cntU s.found n = n
  op : s.open'.length ≤ s.time
  cl : s.calls.length ≤ s.time
  ix : ∀ c ∈ s.calls, c.2 ≤ (g c.1).length
  lw : ∀ v, s.low v ≤ s.time
  pt : ∀ v, -1 ≤ s.part v ∧ s.part v < n

theorem sumN_one : ∀ n, sumN (fun _ => 1) n = n
  | 0 => rfl
  | n + 1 => by simp [sumN, sumN_one n]
theorem Bnd.init (g : Nat → List Nat) (n : Nat) : Bnd g n St.init := by
  refine ⟨?_, Nat.le_refl _, Nat.le_refl _, by simp [St.init], by simp [St.init], by intro v; simp [St.init]; omega⟩
  simp [St.init, cntU, sumN_one]

variable {g : Nat → List Nat} {n : Nat} {s : St}
theorem Bnd.enter (h : Bnd g n s) {t : Nat} {C : List (Nat × Nat)} (ht : s.found t = 0) (htn : t < n) (hC : C.length ≤ s.calls.length) (hix : ∀ c ∈ C, c.2 ≤ (g c.1).length) : Bnd g n (St.enter { s with calls := C } t) := by
  refine ⟨?_, ?_, ?_, ?_, fun v => ?_, h.pt⟩
  · have := cntU_upd (f := s.found) (x := s.time + 1) ht htn (by omega)
    have := h.tm
    show s.time + 1 + cntU (upd s.found t (s.time + 1)) n = n
    omega
  · have := h.op; simp [St.enter]; omega
  · have := h.cl; simp [St.enter]; omega
  · intro c hc
    simp only [St.enter, List.mem_cons] at hc
    rcases hc with rfl | hc
    · simp
    · exact hix c hc
  · have := h.lw v
    show upd s.low t (s.time + 1) v ≤ s.time + 1
    unfold upd
    split <;> omega

theorem closeL_length (v : Nat) : ∀ (o : List Nat) (p : Nat → Int), (closeL v o p).1.length ≤ o.length
  | [], _ => Nat.le_refl _
  | t :: o, p => by
    unfold closeL
    split
    · simp
    · have := closeL_length v o (upd p t v); simp; omega
theorem closeL_part (v n : Nat) (hv : v < n) : ∀ (o : List Nat) (p : Nat → Int), (∀ x, -1 ≤ p x ∧ p x < n) → ∀ x, -1 ≤ (closeL v o p).2 x ∧ (closeL v o p).2 x < n
  | [], _, h => h
  | t :: o, p, h => by
    have hu : ∀ x, -1 ≤ upd p t (v : Int) x ∧ upd p t (v : Int) x < n := fun x => by have := h x; unfold upd; split <;> omega
    unfold closeL
    split
    · exact hu
    · exact closeL_part v n hv o _ hu

theorem lowUp_le (s : St) (v : Nat) (cs : List (Nat × Nat)) (x : Nat) : lowUp s v cs x ≤ s.low x := by
  unfold lowUp
  split
  · exact Nat.le_refl _
  · unfold upd; split
    · rename_i h; subst h; exact Nat.min_le_left _ _
    · exact Nat.le_refl _

theorem leave_eq {v i : Nat} {cs : List (Nat × Nat)} (hc : s.calls = (v, i) :: cs) :
    s.leave = if lowUp s v cs v ≠ s.found v then { s with calls := cs, low := lowUp s v cs } else { s with calls := cs, low := lowUp s v cs, open' := (closeL v s.open' s.part).1, part := (closeL v s.open' s.part).2 } := by
  unfold St.leave
  rw [hc]
  rfl

theorem Bnd.step (h : Bnd g n s) (hi : Inv g n s) (hg : ∀ v, ∀ t ∈ g v, t < n) : Bnd g n (s.step g) := by
  unfold St.step
  cases hc : s.calls with
  | nil => exact h
  | cons a cs =>
    obtain ⟨v, i⟩ := a
    dsimp only
    have hcl := h.cl
    rw [hc] at hcl
    simp only [List.length_cons] at hcl
    have hix := h.ix
    rw [hc] at hix
    have hv : v < n := hi.rng v ((hi.opn v).1 (hi.cop v ⟨i, by rw [hc]; simp⟩)).1
    have hix' : ∀ (t : Nat), (g v)[i]? = some t → ∀ c ∈ (v, i + 1) :: cs, c.2 ≤ (g c.1).length := fun t ht c hcc => by
      rw [List.mem_cons] at hcc
      rcases hcc with rfl | hcc
      · exact (List.getElem?_eq_some_iff.1 ht).1
      · exact hix c (by simp [hcc])
    cases ha : (g v)[i]? with
    | none =>
      dsimp only
      rw [leave_eq hc]
      have hl : ∀ x, lowUp s v cs x ≤ s.time := fun x => Nat.le_trans (lowUp_le s v cs x) (h.lw x)
      split
      · exact ⟨h.tm, h.op, by show cs.length ≤ s.time; omega, fun c hcc => hix c (by simp [hcc]), hl, h.pt⟩
      · exact ⟨h.tm, Nat.le_trans (closeL_length v s.open' s.part) h.op, by show cs.length ≤ s.time; omega, fun c hcc => hix c (by simp [hcc]), hl, closeL_part v n hv s.open' s.part h.pt⟩
    | some t =>
      dsimp only
      have htn := hg v t (mem_at ha)
      by_cases hf : s.found t = 0
      · rw [if_pos hf]
        exact h.enter hf htn (by rw [hc]; simp) (hix' t ha)
      · rw [if_neg hf]
        split
        · refine ⟨h.tm, h.op, by simp; omega, hix' t ha, fun x => ?_, h.pt⟩
          have h1 := h.lw x
          show upd s.low v (min (s.low v) (s.found t)) x ≤ s.time
          unfold upd
          split
          · rename_i e; subst e; omega
          · exact h1
        · exact ⟨h.tm, h.op, by simp; omega, hix' t ha, h.lw, h.pt⟩

theorem mu_step (hg : ∀ v, ∀ t ∈ g v, t < n) (hne : s.calls ≠ []) : (s.step g).mu g n < s.mu g n := by
  unfold St.step
  cases hc : s.calls with
  | nil => exact absurd hc hne
  | cons a cs =>
    obtain ⟨v, i⟩ := a
    dsimp only
    have e0 : s.mu g n = wgt g s.found n + (((g v).length - i + 1) + callW g cs) := by unfold St.mu; rw [hc]; rfl
    rw [e0]
    cases ha : (g v)[i]? with
    | none =>
      dsimp only
      rw [leave_eq hc]
      split
      · show wgt g s.found n + callW g cs < _; omega
      · show wgt g s.found n + callW g cs < _; omega
    | some t =>
      dsimp only
      have htn := hg v t (mem_at ha)
      have hil := (List.getElem?_eq_some_iff.1 ha).1
      by_cases hf : s.found t = 0
      · rw [if_pos hf]
        have := wgt_upd (g := g) (f := s.found) (n := n) (t := t) (x := s.time + 1) hf htn (by omega)
        show wgt g (upd s.found t (s.time + 1)) n + (((g t).length - 0 + 1) + (((g v).length - (i + 1) + 1) + callW g cs)) < _
        omega
      · rw [if_neg hf]
        split
        · show wgt g s.found n + (((g v).length - (i + 1) + 1) + callW g cs) < _; omega
        · show wgt g s.found n + (((g v).length - (i + 1) + 1) + callW g cs) < _; omega

theorem found_step (x : Nat) (h : s.found x ≠ 0) : (s.step g).found x ≠ 0 := by
  unfold St.step
  cases hc : s.calls with
  | nil => exact h
  | cons a cs =>
    obtain ⟨v, i⟩ := a
    dsimp only
    cases ha : (g v)[i]? with
    | none =>
      dsimp only
      rw [leave_eq hc]
      split <;> exact h
    | some t =>
      dsimp only
      by_cases hf : s.found t = 0
      · rw [if_pos hf]
        show upd s.found t (s.time + 1) x ≠ 0
        unfold upd
        split
        · omega
        · exact h
      · rw [if_neg hf]
        split <;> exact h

/-- Between two roots: no call is open, and the vertices below m are found. -/
structure Rest (g : Nat → List Nat) (n m : Nat) (s : St) : Prop where
  inv : Inv g n s
  bnd : Bnd g n s
  none : s.calls = []
  all : ∀ v, v < m → s.found v ≠ 0

variable {m : Nat}
theorem Rest.open_ (h : Rest g n m s) : s.open' = [] := h.inv.none_open h.none
/-- At the end two vertices have one part just if each leads to the other. -/
theorem Rest.parts (h : Rest g n n s) : (∀ v, v < n → 0 ≤ s.part v ∧ s.part v < n) ∧ ∀ u v, u < n → v < n → (s.part u = s.part v ↔ Both g u v) := by
  have hp : ∀ v, v < n → 0 ≤ s.part v := fun v hv => by
    apply Int.not_lt.1
    intro hneg
    have := (h.inv.opn v).2 ⟨h.all v hv, hneg⟩
    rw [h.open_] at this
    cases this
  refine ⟨fun v hv => ⟨hp v hv, (h.bnd.pt v).2⟩, fun u v hu hv => ⟨fun e => ?_, h.inv.p2 u v (hp u hu) (hp v hv)⟩⟩
  obtain ⟨r, h1, _, h3⟩ := h.inv.p1 u (hp u hu)
  obtain ⟨q, k1, _, k3⟩ := h.inv.p1 v (hp v hv)
  obtain rfl : r = q := by omega
  exact ⟨h3.1.trans k3.2, k3.1.trans h3.2⟩

/-! ### numbers of parts, in the order of their first vertices -/
open Classical in
noncomputable def cntNew (R : Nat → Nat → Prop) : Nat → Nat
  | 0 => 0
  | k + 1 => cntNew R k + if (∀ x, x < k → ¬ R x k) then 1 else 0
/-- The number of v's part is how many parts begin ahead of its own. -/
def NumOf (R : Nat → Nat → Prop) (v x : Nat) : Prop := ∃ u, u ≤ v ∧ R u v ∧ (∀ w, w < u → ¬ R w u) ∧ x = cntNew R u
theorem NumOf.uniq {R : Nat → Nat → Prop} (hs : ∀ a b, R a b → R b a) (ht : ∀ a b c, R a b → R b c → R a c) {v x y : Nat} (h : NumOf R v x) (k : NumOf R v y) : x = y := by
  obtain ⟨u, _, h2, h3, rfl⟩ := h
  obtain ⟨w, _, k2, k3, rfl⟩ := k
  rcases Nat.lt_trichotomy u w with hlt | rfl | hlt
  · exact absurd (ht _ _ _ h2 (hs _ _ k2)) (k3 u hlt)
  · rfl
  · exact absurd (ht _ _ _ k2 (hs _ _ h2)) (h3 w hlt)
theorem cntNew_le (R : Nat → Nat → Prop) : ∀ k, cntNew R k ≤ k
  | 0 => Nat.le_refl _
  | k + 1 => by
    have := cntNew_le R k
    unfold cntNew
    split <;> omega
theorem cntNew_new {R : Nat → Nat → Prop} {k : Nat} (h : ∀ x, x < k → ¬ R x k) : cntNew R (k + 1) = cntNew R k + 1 := by
  simp only [cntNew]
  rw [if_pos h]
theorem cntNew_old {R : Nat → Nat → Prop} {k x : Nat} (hx : x < k) (h : R x k) : cntNew R (k + 1) = cntNew R k := by
  simp only [cntNew]
  rw [if_neg (fun hh => hh x hx h)]
  rfl
theorem numOf_new {R : Nat → Nat → Prop} (hr : ∀ a, R a a) {v : Nat} (h : ∀ x, x < v → ¬ R x v) : NumOf R v (cntNew R v) := ⟨v, Nat.le_refl _, hr v, h, rfl⟩
theorem numOf_old {R : Nat → Nat → Prop} (ht : ∀ a b c, R a b → R b c → R a c) {u v x : Nat} (hu : u ≤ v) (hR : R u v) (h : NumOf R u x) : NumOf R v x := by
  obtain ⟨w, h1, h2, h3, h4⟩ := h
  exact ⟨w, Nat.le_trans h1 hu, ht _ _ _ h2 hR, h3, h4⟩
theorem both_refl (a : Nat) : Both g a a := ⟨.refl _, .refl _⟩
theorem both_symm {a b : Nat} (h : Both g a b) : Both g b a := ⟨h.2, h.1⟩
theorem both_trans {a b c : Nat} (h : Both g a b) (k : Both g b c) : Both g a c := ⟨h.1.trans k.1, k.2.trans h.2⟩
end Go.Proofs.YtapebbejdgeijaaDoor.Tar
