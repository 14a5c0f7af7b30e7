/- Plain law: the chapter's graph. -/
import Derived.Test.YtapebbejdgeijaaDoorTarF
namespace Go.Proofs.YtapebbejdgeijaaDoor.Tar

def sixL : List (List Int) := [[1], [2], [1, 3], [4], [4], [0]]
theorem six_ok : graphBad sixL = none := by decide
def sixN (v : Nat) : List Nat := if v = 0 then [1] else if v = 1 then [2] else if v = 2 then [1, 3] else if v = 3 then [4] else if v = 4 then [4] else if v = 5 then [0] else []
theorem six_eq : natG sixL = sixN := by
  funext v
  rcases Nat.lt_or_ge v 6 with h | h
  · have : v = 0 ∨ v = 1 ∨ v = 2 ∨ v = 3 ∨ v = 4 ∨ v = 5 := by omega
    rcases this with rfl | rfl | rfl | rfl | rfl | rfl <;> rfl
  · rw [natG_out v (show sixL.length ≤ v from h)]
    unfold sixN
    rw [if_neg (by omega), if_neg (by omega), if_neg (by omega), if_neg (by omega), if_neg (by omega), if_neg (by omega)]
theorem six_arr {a b : Nat} (h : b ∈ sixN a) : (a = 0 ∧ b = 1) ∨ (a = 1 ∧ b = 2) ∨ (a = 2 ∧ b = 1) ∨ (a = 2 ∧ b = 3) ∨ (a = 3 ∧ b = 4) ∨ (a = 4 ∧ b = 4) ∨ (a = 5 ∧ b = 0) := by
  unfold sixN at h
  split at h
  · simp at h; omega
  · split at h
    · simp at h; omega
    · split at h
      · simp at h; omega
      · split at h
        · simp at h; omega
        · split at h
          · simp at h; omega
          · split at h
            · simp at h; omega
            · cases h
def sixV (v : Nat) : Nat := if v = 0 then 1 else if v = 1 then 2 else if v = 2 then 2 else if v = 3 then 3 else if v = 4 then 4 else if v = 5 then 0 else v
theorem sixV_le {a b : Nat} (h : Reach (Arr sixN) a b) : sixV a ≤ sixV b := by
  induction h with
  | refl => exact Nat.le_refl _
  | step _ e ih =>
    refine Nat.le_trans ih ?_
    rcases six_arr e with h | h | h | h | h | h | h <;> obtain ⟨rfl, rfl⟩ := h <;> decide
theorem six_far {a b : Nat} (h : Reach (Arr sixN) a b) (ha : 6 ≤ a) : b = a := by
  induction h with
  | refl => rfl
  | step _ e ih => rcases six_arr e with h | h | h | h | h | h | h <;> omega
theorem six_both {a b : Nat} (h : Both sixN a b) : sixV a = sixV b := Nat.le_antisymm (sixV_le h.1) (sixV_le h.2)
theorem one (a b : Nat) (h : b ∈ sixN a) : Reach (Arr sixN) a b := Reach.one h
theorem b12 : Both sixN 1 2 := ⟨one 1 2 (by decide), one 2 1 (by decide)⟩
theorem cnt6 : cntNew (Both sixN) 1 = 1 ∧ cntNew (Both sixN) 3 = 2 ∧ cntNew (Both sixN) 4 = 3 ∧ cntNew (Both sixN) 5 = 4 := by
  have c1 : cntNew (Both sixN) 1 = 0 + 1 := cntNew_new (k := 0) fun x hx => by omega
  have c2 : cntNew (Both sixN) 2 = cntNew (Both sixN) 1 + 1 := cntNew_new (k := 1) fun x hx hb => by
    obtain rfl : x = 0 := by omega
    exact absurd (six_both hb) (by decide)
  have c3 : cntNew (Both sixN) 3 = cntNew (Both sixN) 2 := cntNew_old (k := 2) (x := 1) (by omega) b12
  have c4 : cntNew (Both sixN) 4 = cntNew (Both sixN) 3 + 1 := cntNew_new (k := 3) fun x hx hb => by
    have : x = 0 ∨ x = 1 ∨ x = 2 := by omega
    rcases this with rfl | rfl | rfl <;> exact absurd (six_both hb) (by decide)
  have c5 : cntNew (Both sixN) 5 = cntNew (Both sixN) 4 + 1 := cntNew_new (k := 4) fun x hx hb => by
    have : x = 0 ∨ x = 1 ∨ x = 2 ∨ x = 3 := by omega
    rcases this with rfl | rfl | rfl | rfl <;> exact absurd (six_both hb) (by decide)
  omega
theorem six_new (u : Nat) (hu : u = 0 ∨ u = 1 ∨ u = 3 ∨ u = 4 ∨ u = 5) : ∀ w, w < u → ¬ Both sixN w u := fun w hw hb => by
  have h := six_both hb
  rcases hu with rfl | rfl | rfl | rfl | rfl
  · omega
  · obtain rfl : w = 0 := by omega
    exact absurd h (by decide)
  · have : w = 0 ∨ w = 1 ∨ w = 2 := by omega
    rcases this with rfl | rfl | rfl <;> exact absurd h (by decide)
  · have : w = 0 ∨ w = 1 ∨ w = 2 ∨ w = 3 := by omega
    rcases this with rfl | rfl | rfl | rfl <;> exact absurd h (by decide)
  · have : w = 0 ∨ w = 1 ∨ w = 2 ∨ w = 3 ∨ w = 4 := by omega
    rcases this with rfl | rfl | rfl | rfl | rfl <;> exact absurd h (by decide)
theorem six_parts : IsParts sixN 6 [0, 1, 1, 2, 3, 4] := by
  obtain ⟨c1, c3, c4, c5⟩ := cnt6
  have hn : ∀ u, (u = 0 ∨ u = 1 ∨ u = 3 ∨ u = 4 ∨ u = 5) → NumOf (Both sixN) u (cntNew (Both sixN) u) := fun u hu => ⟨u, Nat.le_refl _, ⟨.refl _, .refl _⟩, six_new u hu, rfl⟩
  refine ⟨rfl, fun v x h => ?_⟩
  have hv : v < 6 := (List.getElem?_eq_some_iff.1 h).1
  have : v = 0 ∨ v = 1 ∨ v = 2 ∨ v = 3 ∨ v = 4 ∨ v = 5 := by omega
  rcases this with rfl | rfl | rfl | rfl | rfl | rfl
  · obtain rfl : 0 = x := Option.some.inj h
    exact hn 0 (by omega)
  · obtain rfl : 1 = x := Option.some.inj h
    have := hn 1 (by omega)
    rw [c1] at this; exact this
  · obtain rfl : 1 = x := Option.some.inj h
    exact ⟨1, by omega, b12, six_new 1 (by omega), c1.symm⟩
  · obtain rfl : 2 = x := Option.some.inj h
    have := hn 3 (by omega)
    rw [c3] at this; exact this
  · obtain rfl : 3 = x := Option.some.inj h
    have := hn 4 (by omega)
    rw [c4] at this; exact this
  · obtain rfl : 4 = x := Option.some.inj h
    have := hn 5 (by omega)
    rw [c5] at this; exact this
theorem loop1 : OnLoop sixN 1 := ⟨2, by decide, one 2 1 (by decide)⟩
theorem loop2 : OnLoop sixN 2 := ⟨1, by decide, one 1 2 (by decide)⟩
theorem loop4 : OnLoop sixN 4 := ⟨4, by decide, .refl _⟩
theorem six_loop {u : Nat} (h : OnLoop sixN u) : u = 1 ∨ u = 2 ∨ u = 4 := by
  obtain ⟨t, ht, hr⟩ := h
  have hl := sixV_le hr
  rcases six_arr ht with h | h | h | h | h | h | h <;> obtain ⟨rfl, rfl⟩ := h
  · exact absurd hl (by decide)
  · omega
  · omega
  · exact absurd hl (by decide)
  · exact absurd hl (by decide)
  · omega
  · exact absurd hl (by decide)
theorem six_live : liveL sixN 6 = [1, 2, 3, 4] := by
  have h : ∀ v, v < 6 → (([1, 2, 3, 4] : List Nat).contains v = true ↔ LiveV sixN v) := fun v hv => by
    have : v = 0 ∨ v = 1 ∨ v = 2 ∨ v = 3 ∨ v = 4 ∨ v = 5 := by omega
    rcases this with rfl | rfl | rfl | rfl | rfl | rfl
    · refine ⟨fun h => absurd h (by decide), fun h => ?_⟩
      obtain ⟨⟨u, hu, hr⟩, _⟩ := h
      have hl := sixV_le hr
      rcases six_loop hu with rfl | rfl | rfl <;> exact absurd hl (by decide)
    · exact ⟨fun _ => ⟨⟨1, loop1, .refl _⟩, 1, loop1, .refl _⟩, fun _ => by decide⟩
    · exact ⟨fun _ => ⟨⟨2, loop2, .refl _⟩, 2, loop2, .refl _⟩, fun _ => by decide⟩
    · exact ⟨fun _ => ⟨⟨2, loop2, one 2 3 (by decide)⟩, 4, loop4, one 3 4 (by decide)⟩, fun _ => by decide⟩
    · exact ⟨fun _ => ⟨⟨4, loop4, .refl _⟩, 4, loop4, .refl _⟩, fun _ => by decide⟩
    · refine ⟨fun h => absurd h (by decide), fun h => ?_⟩
      obtain ⟨⟨u, hu, hr⟩, _⟩ := h
      have hl := sixV_le hr
      rcases six_loop hu with rfl | rfl | rfl <;> exact absurd hl (by decide)
  rw [← liveL_eq h]
  decide
theorem six_dist {t d : Nat} (h : PathN sixN 4 t d) : 4 ≤ t + d := by
  induction h with
  | stop => omega
  | go e _ ih => rcases six_arr e with h | h | h | h | h | h | h <;> omega
theorem six_lex : Lex sixN 4 0 [0, 1, 2, 3, 4] := by
  have l3 : Lex sixN 4 3 [3, 4] := .go (y := 4) (by decide) (by decide) .stop fun t ht d hp => by
    rcases six_arr ht with h | h | h | h | h | h | h <;> simp at h ⊢
    omega
  have l2 : Lex sixN 4 2 [2, 3, 4] := .go (y := 3) (by decide) (by decide) l3 fun t ht d hp => by
    have := six_dist hp
    rcases six_arr ht with h | h | h | h | h | h | h <;> simp at h ⊢ <;> omega
  have l1 : Lex sixN 4 1 [1, 2, 3, 4] := .go (y := 2) (by decide) (by decide) l2 fun t ht d hp => by
    have := six_dist hp
    rcases six_arr ht with h | h | h | h | h | h | h <;> simp at h ⊢ <;> omega
  exact .go (y := 1) (by decide) (by decide) l1 fun t ht d hp => by
    have := six_dist hp
    rcases six_arr ht with h | h | h | h | h | h | h <;> simp at h ⊢ <;> omega
theorem six_reach : Reach (Arr sixN) 0 4 := ((((one 0 1 (by decide)).trans (one 1 2 (by decide))).trans (one 2 3 (by decide))).trans (one 3 4 (by decide)))
end Go.Proofs.YtapebbejdgeijaaDoor.Tar
