/- Plain law: the numbering loops; a graph out of lists of whole numbers. -/
import Derived.Test.YtapebbejdgeijaaDoorTarE
namespace Go.Proofs.YtapebbejdgeijaaDoor.Tar
variable {g : Nat → List Nat} {n : Nat}

theorem cntNew_congr {R R' : Nat → Nat → Prop} : ∀ k, (∀ a b, a < k → b < k → (R a b ↔ R' a b)) → cntNew R k = cntNew R' k
  | 0, _ => rfl
  | k + 1, h => by
    simp only [cntNew]
    rw [cntNew_congr k (fun a b ha hb => h a b (by omega) (by omega))]
    by_cases hR : ∀ x, x < k → ¬ R x k
    · rw [if_pos hR, if_pos (fun x hx => by rw [← h x k (by omega) (by omega)]; exact hR x hx)]
    · rw [if_neg hR, if_neg (fun hR' => hR fun x hx => by rw [h x k (by omega) (by omega)]; exact hR' x hx)]
theorem symmB (g : Nat → List Nat) : ∀ a b, Both g a b → Both g b a := fun _ _ h => both_symm h
theorem transB (g : Nat → List Nat) : ∀ a b c, Both g a b → Both g b c → Both g a c := fun _ _ _ h k => both_trans h k
theorem NumOf.congr {R R' : Nat → Nat → Prop} {v x : Nat} (hc : ∀ a b, a ≤ v → b ≤ v → (R a b ↔ R' a b)) (h : NumOf R v x) : NumOf R' v x := by
  obtain ⟨u, h1, h2, h3, rfl⟩ := h
  exact ⟨u, h1, (hc _ _ h1 (Nat.le_refl _)).1 h2, fun w hw hh => h3 w hw ((hc _ _ (by omega) h1).2 hh), cntNew_congr u fun a b ha hb => hc a b (by omega) (by omega)⟩

/-! ### by a map from parts to numbers -/
/-- f: the numbers of the parts of the vertices below m. -/
structure MapNum (part : Nat → Int) (m : Nat) (f : Int → Option Int) : Prop where
  non : ∀ p, f p = none → ∀ u, u < m → part u ≠ p
  som : ∀ p x, f p = some x → ∃ u, u < m ∧ part u = p ∧ (∀ w, w < u → part w ≠ p) ∧ x = (cntNew (fun a b => part a = part b) u : Nat)
variable {part : Nat → Int} {m : Nat} {f : Int → Option Int}
theorem MapNum.start : MapNum part 0 (fun _ => none) := ⟨fun _ _ u h => by omega, fun _ _ h => by cases h⟩
theorem MapNum.new (h : MapNum part m f) (hf : f (part m) = none) : MapNum part (m + 1) (fun p => if p = part m then some ((cntNew (fun a b => part a = part b) m : Nat) : Int) else f p) ∧
    cntNew (fun a b => part a = part b) (m + 1) = cntNew (fun a b => part a = part b) m + 1 ∧ NumOf (fun a b => part a = part b) m (cntNew (fun a b => part a = part b) m) := by
  have hn := h.non _ hf
  refine ⟨⟨fun p hp u hu => ?_, fun p x hp => ?_⟩, cntNew_new hn, numOf_new (R := fun a b => part a = part b) (fun _ => rfl) hn⟩
  · split at hp
    · cases hp
    · rename_i hne
      by_cases e : u = m
      · subst e; exact fun hh => hne hh.symm
      · exact h.non p hp u (by omega)
  · split at hp
    · rename_i e
      cases hp
      subst e
      exact ⟨m, by omega, rfl, hn, rfl⟩
    · obtain ⟨u, h1, h2⟩ := h.som p x hp
      exact ⟨u, by omega, h2⟩
theorem MapNum.old (h : MapNum part m f) {x : Int} (hf : f (part m) = some x) : MapNum part (m + 1) f ∧
    cntNew (fun a b => part a = part b) (m + 1) = cntNew (fun a b => part a = part b) m ∧ ∃ k : Nat, x = k ∧ NumOf (fun a b => part a = part b) m k := by
  obtain ⟨u, h1, h2, h3, rfl⟩ := h.som _ x hf
  refine ⟨⟨fun p hp w hw => ?_, fun p x hp => ?_⟩, cntNew_old h1 h2, _, rfl, u, by omega, h2, fun w hw hh => h3 w hw (hh.trans h2), rfl⟩
  · by_cases e : w = m
    · subst e
      intro hh
      rw [hh] at hf
      rw [hf] at hp
      cases hp
    · exact h.non p hp w (by omega)
  · obtain ⟨u, h1, h2⟩ := h.som p x hp
    exact ⟨u, by omega, h2⟩

/-! ### by marking whole parts -/
structure MarkNum (g : Nat → List Nat) (m : Nat) (o : Nat → Int) : Prop where
  lo : ∀ t, -1 ≤ o t
  neg : ∀ t, o t < 0 → ∀ u, u < m → ¬ Both g u t
  pos : ∀ t, 0 ≤ o t → ∃ u, u < m ∧ Both g u t ∧ (∀ w, w < u → ¬ Both g w u) ∧ o t = (cntNew (Both g) u : Nat)
variable {o : Nat → Int}
theorem MarkNum.start : MarkNum g 0 (fun _ => -1) := ⟨fun _ => by omega, fun _ _ u h => by omega, fun _ h => by omega⟩
theorem MarkNum.skip (h : MarkNum g m o) (hm : 0 ≤ o m) : MarkNum g (m + 1) o ∧ cntNew (Both g) (m + 1) = cntNew (Both g) m := by
  obtain ⟨u, h1, h2, h3, h4⟩ := h.pos m hm
  refine ⟨⟨h.lo, fun t ht w hw => ?_, fun t ht => ?_⟩, cntNew_old h1 h2⟩
  · by_cases e : w = m
    · subst e
      intro hb
      exact h.neg t ht u h1 (both_trans h2 hb)
    · exact h.neg t ht w (by omega)
  · obtain ⟨u, h1, h2⟩ := h.pos t ht
    exact ⟨u, by omega, h2⟩
/-- Behind the marking of the vertices below k. -/
theorem MarkNum.mark (h : MarkNum g m o) (hm : o m < 0) {o' : Nat → Int} (hyes : ∀ t, Both g m t → o' t = (cntNew (Both g) m : Nat)) (hno : ∀ t, ¬ Both g m t → o' t = o t) : MarkNum g (m + 1) o' ∧ cntNew (Both g) (m + 1) = cntNew (Both g) m + 1 := by
  have hn := h.neg m hm
  refine ⟨⟨fun t => ?_, fun t ht w hw => ?_, fun t ht => ?_⟩, cntNew_new hn⟩
  · by_cases hb : Both g m t
    · rw [hyes t hb]; omega
    · rw [hno t hb]; exact h.lo t
  · by_cases hb : Both g m t
    · rw [hyes t hb] at ht; omega
    · rw [hno t hb] at ht
      by_cases e : w = m
      · subst e; exact hb
      · exact h.neg t ht w (by omega)
  · by_cases hb : Both g m t
    · exact ⟨m, by omega, hb, hn, hyes t hb⟩
    · rw [hno t hb] at ht ⊢
      obtain ⟨u, h1, h2⟩ := h.pos t ht
      exact ⟨u, by omega, h2⟩
theorem MarkNum.num (h : MarkNum g n o) {t : Nat} (ht : t < n) : ∃ x : Nat, o t = x ∧ NumOf (Both g) t x := by
  have hp : 0 ≤ o t := by
    apply Int.not_lt.1
    intro hneg
    exact h.neg t hneg t ht (both_refl t)
  obtain ⟨u, h1, h2, h3, h4⟩ := h.pos t hp
  refine ⟨_, h4, u, ?_, h2, h3, rfl⟩
  apply Nat.le_of_not_lt
  intro hlt
  exact h3 t hlt (both_symm h2)

/-! ### a list of numbers, one a vertex -/
def IsParts (g : Nat → List Nat) (n : Nat) (xs : List Nat) : Prop := xs.length = n ∧ ∀ (v x : Nat), xs[v]? = some x → NumOf (Both g) v x
theorem IsParts.uniq {xs ys : List Nat} (h : IsParts g n xs) (k : IsParts g n ys) : xs = ys := by
  apply List.ext_getElem (h.1.trans k.1.symm)
  intro i h1 h2
  exact (h.2 i _ (List.getElem?_eq_getElem h1)).uniq (symmB g) (transB g) (k.2 i _ (List.getElem?_eq_getElem h2))
theorem IsParts.same {xs : List Nat} (h : IsParts g n xs) {u v : Nat} (hu : u < n) (hv : v < n) : xs.getD u 0 = xs.getD v 0 ↔ Both g u v := by
  have hnew : ∀ a b, a < b → (∀ w, w < a → ¬ Both g w a) → cntNew (Both g) a < cntNew (Both g) b := by
    intro a b
    induction b with
    | zero => intro h; omega
    | succ b ih =>
      intro hab hn
      by_cases e : a = b
      · subst e; rw [cntNew_new hn]; omega
      · have := ih (by omega) hn
        have : cntNew (Both g) b ≤ cntNew (Both g) (b + 1) := by simp only [cntNew]; omega
        omega
  have hl := h.1
  have e1 : xs[u]? = some (xs.getD u 0) := by rw [List.getD_eq_getElem?_getD, List.getElem?_eq_getElem (by omega)]; rfl
  have e2 : xs[v]? = some (xs.getD v 0) := by rw [List.getD_eq_getElem?_getD, List.getElem?_eq_getElem (by omega)]; rfl
  have n1 := h.2 u _ e1
  have n2 := h.2 v _ e2
  generalize xs.getD u 0 = x at *
  generalize xs.getD v 0 = y at *
  constructor
  · rintro rfl
    obtain ⟨a, h1, h2, h3, h4⟩ := n1
    obtain ⟨b, k1, k2, k3, k4⟩ := n2
    rcases Nat.lt_trichotomy a b with hlt | rfl | hlt
    · have := hnew a b hlt h3; omega
    · exact both_trans (both_symm h2) k2
    · have := hnew b a hlt k3; omega
  · intro hb
    have n1' : NumOf (Both g) v x ∨ NumOf (Both g) u y := by
      rcases Nat.le_total u v with hle | hle
      · exact .inl (numOf_old (R := Both g) (transB g) hle hb n1)
      · exact .inr (numOf_old (R := Both g) (transB g) hle (both_symm hb) n2)
    rcases n1' with h1 | h1
    · exact h1.uniq (symmB g) (transB g) n2
    · exact n1.uniq (symmB g) (transB g) h1
open Classical in
noncomputable def liveL (g : Nat → List Nat) (n : Nat) : List Nat := (List.range n).filter fun v => decide (LiveV g v)
open Classical in
theorem liveL_eq {p : Nat → Bool} (h : ∀ v, v < n → (p v = true ↔ LiveV g v)) : (List.range n).filter p = liveL g n := by
  unfold liveL
  apply List.filter_congr
  intro v hv
  rw [List.mem_range] at hv
  have := h v hv
  cases hp : p v with
  | true => exact (decide_eq_true (this.1 hp)).symm
  | false =>
    symm
    apply decide_eq_false
    intro hl
    rw [this.2 hl] at hp
    cases hp
theorem onLoop_iff {xs : List Nat} (h : IsParts g n xs) (hg : ∀ v, ∀ t ∈ g v, t < n) {v : Nat} (hv : v < n) : (∃ t ∈ g v, xs.getD t 0 = xs.getD v 0) ↔ OnLoop g v := by
  constructor
  · rintro ⟨t, h1, h2⟩
    exact ⟨t, h1, ((h.same (hg v t h1) hv).1 h2).1⟩
  · rintro ⟨t, h1, h2⟩
    exact ⟨t, h1, (h.same (hg v t h1) hv).2 ⟨h2, .one h1⟩⟩

/-! ### whole numbers -/
def natG (gs : List (List Int)) (v : Nat) : List Nat := (gs.getD v []).map Int.toNat
def badRow (n : Nat) (l : List Int) : Bool := l.any fun t => decide (t < 0 ∨ (n : Int) ≤ t)
def sumLen : List (List Int) → Nat
  | [] => 0
  | l :: gs => l.length + sumLen gs
/-- Where lists are no graph: the place that is told and the error's number. -/
def graphBad (gs : List (List Int)) : Option (Int × Int) :=
  if 8192 < gs.length then some (0, 4) else if 262144 < sumLen gs then some (1, 4) else (gs.findIdx? (badRow gs.length)).map fun i : Nat => ((i : Int), (1 : Int))
theorem graphOk {gs : List (List Int)} (h : graphBad gs = none) : gs.length ≤ 8192 ∧ sumLen gs ≤ 262144 ∧ ∀ (v : Nat) (l : List Int), gs[v]? = some l → ∀ t ∈ l, 0 ≤ t ∧ t < gs.length := by
  unfold graphBad at h
  split at h
  · cases h
  · split at h
    · cases h
    · rename_i h1 h2
      refine ⟨by omega, by omega, fun v l hl t ht => ?_⟩
      rw [Option.map_eq_none_iff, List.findIdx?_eq_none_iff] at h
      have := h l (List.mem_of_getElem? hl)
      unfold badRow at this
      rw [List.any_eq_false] at this
      have := this t ht
      simp at this
      omega
theorem natG_at {gs : List (List Int)} {v : Nat} {l : List Int} (h : gs[v]? = some l) : natG gs v = l.map Int.toNat := by unfold natG; rw [List.getD_eq_getElem?_getD, h]; rfl
theorem natG_out {gs : List (List Int)} (v : Nat) (hv : gs.length ≤ v) : natG gs v = [] := by unfold natG; rw [List.getD_eq_getElem?_getD, List.getElem?_eq_none_iff.2 hv]; rfl
/-- Lists of vertices, not too long. -/
def GOk (gs : List (List Int)) : Prop := gs.length ≤ 8193 ∧ ∀ (v : Nat) (l : List Int), gs[v]? = some l → l.length ≤ 262144 ∧ ∀ t ∈ l, 0 ≤ t ∧ t < gs.length
theorem sumLen_at : ∀ {gs : List (List Int)} {v : Nat} {l : List Int}, gs[v]? = some l → l.length ≤ sumLen gs
  | [], v, l, h => by simp at h
  | x :: gs, 0, l, h => by
    obtain rfl : x = l := by simpa using h
    simp only [sumLen]; omega
  | x :: gs, v + 1, l, h => by
    have := sumLen_at (gs := gs) (v := v) (l := l) (by simpa using h)
    simp only [sumLen]; omega
theorem GOk.of_bad {gs : List (List Int)} (h : graphBad gs = none) : GOk gs := by
  obtain ⟨h1, h2, h3⟩ := graphOk h
  exact ⟨by omega, fun v l hl => ⟨Nat.le_trans (sumLen_at hl) h2, h3 v l hl⟩⟩
theorem natG_lt {gs : List (List Int)} (h : GOk gs) (v : Nat) : ∀ t ∈ natG gs v, t < gs.length := fun t ht => by
  rcases Nat.lt_or_ge v gs.length with hv | hv
  · have hl := List.getElem?_eq_getElem hv
    rw [natG_at hl] at ht
    obtain ⟨x, hx, rfl⟩ := List.mem_map.1 ht
    have := (h.2 v _ hl).2 x hx
    omega
  · rw [natG_out v hv] at ht; cases ht
theorem natG_len {gs : List (List Int)} (h : GOk gs) (v : Nat) : (natG gs v).length ≤ 262144 := by
  rcases Nat.lt_or_ge v gs.length with hv | hv
  · have hl := List.getElem?_eq_getElem hv
    rw [natG_at hl, List.length_map]
    exact (h.2 v _ hl).1
  · rw [natG_out v hv]; simp
theorem natG_ints {gs : List (List Int)} (h : GOk gs) {v : Nat} {l : List Int} (hl : gs[v]? = some l) : (natG gs v).map (fun x : Nat => (x : Int)) = l := by
  rw [natG_at hl, List.map_map]
  apply List.ext_getElem
  · simp
  · intro i h1 h2
    have := (h.2 v l hl).2 l[i] (List.getElem_mem h2)
    simp
    omega
/-- The lists of a function. -/
def listG (n : Nat) (F : Nat → List Nat) : List (List Int) := (List.range n).map fun t => (F t).map fun x : Nat => (x : Int)
theorem listG_length (n : Nat) (F : Nat → List Nat) : (listG n F).length = n := by simp [listG]
theorem listG_at {n : Nat} {F : Nat → List Nat} {t : Nat} (h : t < n) : (listG n F)[t]? = some ((F t).map fun x : Nat => (x : Int)) := by
  unfold listG; rw [List.getElem?_map, List.getElem?_range h]; rfl
theorem listG_ok {n : Nat} {F : Nat → List Nat} (hn : n ≤ 8193) (h : ∀ t, t < n → (F t).length ≤ 262144 ∧ ∀ x ∈ F t, x < n) : GOk (listG n F) := by
  refine ⟨by rw [listG_length]; exact hn, fun v l hl => ?_⟩
  have hv := (List.getElem?_eq_some_iff.1 hl).1
  rw [listG_length] at hv
  rw [listG_at hv] at hl
  obtain rfl := Option.some.inj hl
  refine ⟨by rw [List.length_map]; exact (h v hv).1, fun t ht => ?_⟩
  obtain ⟨x, hx, rfl⟩ := List.mem_map.1 ht
  have := (h v hv).2 x hx
  rw [listG_length]
  omega
theorem natG_listG {n : Nat} {F : Nat → List Nat} {t : Nat} (h : t < n) : natG (listG n F) t = F t := by
  rw [natG_at (listG_at h), List.map_map]
  have : (Int.toNat ∘ fun x : Nat => (x : Int)) = id := by funext x; simp
  rw [this, List.map_id]
def sumG (g : Nat → List Nat) (m : Nat) : Nat := sumN (fun w => (g w).length) m
theorem turn_len (g : Nat → List Nat) (t : Nat) : ∀ m, (turn g m t).length ≤ sumG g m
  | 0 => by simp [turn]
  | m + 1 => by
    have h1 := turn_len g t m
    have h2 : (sel m t (g m)).length ≤ (g m).length := by unfold sel; rw [List.length_map]; exact List.length_filter_le _ _
    unfold sumG at h1 ⊢
    simp only [turn, List.length_append, sumN]
    omega
theorem sumG_take {gs : List (List Int)} : ∀ m, m ≤ gs.length → sumG (natG gs) m = sumLen (gs.take m)
  | 0, _ => by simp [sumG, sumN, sumLen]
  | m + 1, h => by
    have ih := sumG_take (gs := gs) m (by omega)
    have hl := List.getElem?_eq_getElem (show m < gs.length by omega)
    have e : sumLen (gs.take (m + 1)) = sumLen (gs.take m) + gs[m].length := by
      rw [List.take_succ_eq_append_getElem (by omega)]
      have app : ∀ a b : List (List Int), sumLen (a ++ b) = sumLen a + sumLen b := by
        intro a b
        induction a with
        | nil => simp [sumLen]
        | cons x a ih => simp [sumLen, ih]; omega
      rw [app]; simp [sumLen]
    unfold sumG at ih ⊢
    simp only [sumN]
    rw [ih, e, natG_at hl, List.length_map]
end Go.Proofs.YtapebbejdgeijaaDoor.Tar
