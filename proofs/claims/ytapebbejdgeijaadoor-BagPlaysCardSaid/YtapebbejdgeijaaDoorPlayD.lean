/- plays: one call on both bags. -/
import Derived.Test.YtapebbejdgeijaaDoorPlayE
import Derived.Test.YtapebbejdgeijaaDoorBagH
namespace Go.Proofs.YtapebbejdgeijaaDoor
open Go.RowKit Go.Extern.Stop Go.Stop Go.Extern Go.Deep

theorem RefIn.bagFrame {X : Nat → Prop} {w w' : World} {base : Nat} {p q : Value} {r r' : Nat} {st : BSt} (h : RefIn w base q r' X st) (hb : BagIn w base p r st) (hf : BagFrame w w' r) (hr : r' ≠ r) : RefIn w' base q r' X st := by
  cases st with
  | none => exact ⟨h.1, Nat.le_trans h.2 hf.size⟩
  | some s =>
    have hm := hb.notCells
    obtain ⟨b, rfl, hq⟩ := h
    exact ⟨b, rfl, hq.bagFrame hf hr hm⟩
theorem BagIn.refFrame {X : Nat → Prop} {w w' : World} {base : Nat} {p q : Value} {r r' : Nat} {st st' : BSt} (h : BagIn w base p r st') (hq : RefIn w base q r' X st) (hs : st = none → st' = none) (hf : RefFrame w w' r') (hr : r ≠ r') : BagIn w' base p r st' := by
  cases st' with
  | none => exact ⟨h.1, Nat.le_trans h.2 hf.size⟩
  | some s =>
    cases st with
    | none => cases hs rfl
    | some s' =>
      have hm := hq.notCells
      obtain ⟨b, rfl, hb⟩ := h
      exact ⟨b, rfl, hb.refFrame hf hr hm⟩
theorem RefAt.fresh {X X' : Nat → Prop} {w : World} {base b r n : Nat} {sets : List (List Int)} (h : RefAt w base b r n sets X) (hx : ∀ k, k < w.heap.size → X' k) : RefAt w base b r n sets X' := by
  obtain ⟨vs, rows, h⟩ := h
  refine ⟨vs, rows, h.blk, h.lb, h.lr, h.own, h.elt, h.map, h.cln, h.len, h.nle, fun v hv k e => ?_⟩
  obtain ⟨i, hi, rfl⟩ := List.getElem_of_mem hv
  have hl : rows.length = sets.length := by have := h.own.1; omega
  obtain ⟨u, h1, h2⟩ := h.elt i sets[i] (List.getElem?_eq_getElem (by omega))
  rw [List.getElem?_eq_getElem hi] at h1
  obtain rfl := Option.some.inj h1
  exact hx k (h2.lt k e).2
theorem RefIn.fresh {X X' : Nat → Prop} {w : World} {base : Nat} {q : Value} {r : Nat} {st : BSt} (h : RefIn w base q r X st) (hx : ∀ k, k < w.heap.size → X' k) : RefIn w base q r X' st := by
  cases st with
  | none => exact h
  | some s => obtain ⟨b, rfl, h⟩ := h; exact ⟨b, rfl, h.fresh hx⟩
theorem specPut_none {st : BSt} {xs : List Int} : st = none → (specPut st xs).st = none := by rintro rfl; rfl
theorem specUnion_none {st : BSt} {i j : Int} : st = none → (specUnion st i j).st = none := by rintro rfl; rfl

theorem Chain.keeps {S : Nat → Addr} {w w' : World} {t1 t2 : TypeId} (hk : Keeps w w' t1 t2) (h1 : 97 ≠ t1) (h2 : 97 ≠ t2) : ∀ {l : List (ByteArray × Int)} {v : Value} {i : Nat}, Chain S w v i l → Chain S w' v i l
  | [], _, _, h => h
  | (_, _) :: _, _, _, ⟨b, v', e1, e2, e3⟩ => ⟨b, v', e1, hk _ _ _ _ e2 h1 h2, Chain.keeps hk h1 h2 e3⟩
theorem OpRes.keeps {S : Nat → Addr} {w w' : World} {v : Value} {N : Int} {l : List (ByteArray × Int)} {t1 t2 : TypeId} (h : OpRes S w v N l) (hk : Keeps w w' t1 t2) (h1 : 97 ≠ t1) (h2 : 97 ≠ t2) : OpRes S w' v N l := by
  rcases h with h | ⟨a, b⟩
  · exact .inl h
  · exact .inr ⟨Chain.keeps hk h1 h2 a, b⟩

/-- The call's own copy of its struct. -/
def OpCell (w : World) (k : Nat) (kind I J : Int) (v : Value) : Prop := w.heap[k]? = some (.cells #[.int .i64 kind, .int .i64 I, .int .i64 J, v] 48 (0, 0))
theorem OpCell.cells {w : World} {k : Nat} {kind I J : Int} {v : Value} (h : OpCell w k kind I J v) : w.cell? ⟨k, 0, none⟩ = some (.int .i64 kind) ∧ w.cell? ⟨k, 1, none⟩ = some (.int .i64 I) ∧ w.cell? ⟨k, 2, none⟩ = some (.int .i64 J) ∧ w.cell? ⟨k, 3, none⟩ = some v := by
  unfold OpCell at h
  simp [World.cell?, h]
theorem OpCell.below {w w' : World} {k : Nat} {kind I J : Int} {v : Value} (h : OpCell w k kind I J v) (hb : Below w.heap.size w w') : OpCell w' k kind I J v := (hb.block k (Array.getElem?_eq_some_iff.1 h).1).trans h
theorem OpCell.keeps {w w' : World} {k : Nat} {kind I J : Int} {v : Value} {t1 t2 : TypeId} (h : OpCell w k kind I J v) (hk : Keeps w w' t1 t2) (h1 : 48 ≠ t1) (h2 : 48 ≠ t2) : OpCell w' k kind I J v := hk _ _ _ _ h h1 h2
def LentCell (w : World) (g : Nat) (xs : List Int) : Prop := w.heap[g]? = some (.cells (lentCells xs).toArray 3 (0, 0))
theorem LentCell.below {w w' : World} {g : Nat} {xs : List Int} (h : LentCell w g xs) (hb : Below w.heap.size w w') : LentCell w' g xs := (hb.block g (Array.getElem?_eq_some_iff.1 h).1).trans h
theorem LentCell.keeps {w w' : World} {g : Nat} {xs : List Int} {t1 t2 : TypeId} (h : LentCell w g xs) (hk : Keeps w w' t1 t2) (h1 : 3 ≠ t1) (h2 : 3 ≠ t2) : LentCell w' g xs := hk _ _ _ _ h h1 h2
/-- What a call on both bags leaves. -/
def PlaysPost (base : Nat) (p q : Value) (r r' : Nat) (w : World) (e : Ending) (w' : World) : Prop :=
  e = .returned (.bool true) ∧ ∃ (st' : BSt) (X' : Nat → Prop), BagIn w' base p r st' ∧ RefIn w' base q r' X' st' ∧ Below base w w'
theorem own_ri_at {w : World} {base : Nat} {e : TypeId} {k : IntKind} {n c : Nat} {A : Option Addr} {xs : List Int} (h : w.ownsRow base e 1 (.slice A n c) n (xs.map (Value.int k))) : RI w k A xs := by
  obtain ⟨A', c', hv, _, _, hr⟩ := own_ri h
  simp only [Value.slice.injEq] at hv
  obtain ⟨rfl, _, _⟩ := hv
  exact hr
theorem own_max {w : World} {base : Nat} {e : TypeId} {size n : Nat} {v : Value} {xs : List Value} (h : w.ownsRow base e size v n xs) : n ≤ 9223372036854775807 := by
  obtain ⟨_, _, _, _, h⟩ := own_slice h
  exact h
end Go.Proofs.YtapebbejdgeijaaDoor
