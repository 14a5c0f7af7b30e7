/- Both bags: Has, Union, Len; frames. -/
import Derived.Test.YtapebbejdgeijaaDoorPlayB
namespace Go.Proofs.YtapebbejdgeijaaDoor
open Go.RowKit Go.Extern.Stop Go.Stop Go.Extern Go.Deep

theorem bagHas_any (B : Nat) (S : Nat → Addr) (w : World) (hE : Env B S w) (base : Nat) (p : Value) (r : Nat) (st : BSt) (hb : BagIn w base p r st) (i x : Int) :
    Calls Tryd.prog 52 #[p, .int .i64 i, .int .i64 x] w fun e w' => ∃ v, e = .returned (.tuple #[.bool (decide (x ∈ (specGet st i).xs)), v]) ∧ OpRes S w' v (specGet st i).N (specGet st i).l ∧ Below w.heap.size w w' := by
  cases st with
  | none =>
    obtain ⟨rfl, hbase⟩ := hb
    refine (Has_nil B S w hE i x).mono ?_
    rintro e w' ⟨v, rfl, hc, hbl⟩
    exact ⟨v, by simp [specGet], .inr ⟨hc, rfl, by simp [specGet]⟩, hbl⟩
  | some s =>
    obtain ⟨n, sets⟩ := s
    obtain ⟨b, rfl, hbag⟩ := hb
    rcases specGet_cases n sets i with ⟨k, ws, rfl, hk, e⟩ | ⟨hi, e⟩
    · rw [e]
      refine (Has_ok w base b r n sets hbag k ws hk x).mono ?_
      rintro e w' ⟨rfl, hbl⟩
      exact ⟨.nilIface, rfl, .inl ⟨rfl, rfl⟩, hbl⟩
    · rw [e]
      refine (Has_err B S w hE base b r n sets hbag i hi x).mono ?_
      rintro e w' ⟨v, rfl, hc, hbl⟩
      exact ⟨v, by simp, .inr ⟨hc, rfl, by simp⟩, hbl⟩

theorem RefIn.below {X : Nat → Prop} {w w' : World} {base : Nat} {p : Value} {r : Nat} {st : BSt} (h : RefIn w base p r X st) (hb : Below w.heap.size w w') : RefIn w' base p r X st := by
  cases st with
  | none => exact ⟨h.1, Nat.le_trans h.2 hb.size⟩
  | some s => obtain ⟨b, rfl, hbag⟩ := h; exact ⟨b, rfl, hbag.below hb⟩
theorem BagIn.below {w w' : World} {base : Nat} {p : Value} {r : Nat} {st : BSt} (h : BagIn w base p r st) (hb : Below w.heap.size w w') : BagIn w' base p r st := by
  cases st with
  | none => exact ⟨h.1, Nat.le_trans h.2 hb.size⟩
  | some s => obtain ⟨b, rfl, hbag⟩ := h; exact ⟨b, rfl, hbag.below hb⟩

theorem refHas_any {X : Nat → Prop} (w : World) (base : Nat) (p : Value) (r : Nat) (st : BSt) (hb : RefIn w base p r X st) (i x : Int) :
    Calls Tryd.prog 53 #[p, .int .i64 i, .int .i64 x] w fun e w' => ∃ v, e = .returned (.tuple #[.bool (decide (x ∈ (specGet st i).xs)), v]) ∧ ErrVal w' 0 v (specGet st i).N (specGet st i).l ∧ Below w.heap.size w w' :=
  refHas_calls w p i x _ _ _ (fun W h => refGet_any W base p r st (hb.below h) i)

def specUnion : BSt → Int → Int → PutRes
  | none, _, _ => ⟨0, false, 11, [(opBag, 0)], none⟩
  | some (n, sets), i, j => if i < 0 ∨ (sets.length : Int) ≤ i then ⟨0, false, 3, [(opBag, 0)], some (n, sets)⟩
    else if j < 0 ∨ (sets.length : Int) ≤ j then ⟨0, false, 3, [(opBag, 1)], some (n, sets)⟩
    else specWords n sets (orWords (sets.getD i.toNat []) (sets.getD j.toNat []))

theorem bagUnion_any (B : Nat) (S : Nat → Addr) (w : World) (hE : Env B S w) (base : Nat) (p : Value) (r : Nat) (st : BSt) (hb : BagIn w base p r st) (i j : Int) :
    Calls Tryd.prog 54 #[p, .int .i64 i, .int .i64 j] w (BagPut S base p r (specUnion st i j) w) := by
  cases st with
  | none =>
    obtain ⟨rfl, hbase⟩ := hb
    refine (Union_nil B S w hE i j).mono ?_
    rintro e w' ⟨v, rfl, hc, hbl⟩
    exact ⟨v, rfl, .inr ⟨hc, rfl, by simp [specUnion]⟩, ⟨rfl, Nat.le_trans hbase hbl.size⟩, hbl.mono hbase, BagFrame.of_below r hbl, Keeps.of_below _ _ hbl⟩
  | some s =>
    obtain ⟨n, sets⟩ := s
    obtain ⟨b, rfl, hbag⟩ := hb
    by_cases hi : i < 0 ∨ (sets.length : Int) ≤ i
    · have e : specUnion (some (n, sets)) i j = ⟨0, false, 3, [(opBag, 0)], some (n, sets)⟩ := by simp only [specUnion, hi, if_true]
      rw [e]
      refine (Union_err0 B S w hE base b r n sets hbag i j hi).mono ?_
      rintro e w' ⟨v, rfl, hc, hbl⟩
      exact ⟨v, rfl, .inr ⟨hc, rfl, by simp⟩, ⟨b, rfl, hbag.below hbl⟩, hbl.mono hbag.facts.1, BagFrame.of_below r hbl, Keeps.of_below _ _ hbl⟩
    · have hil : i.toNat < sets.length := by omega
      have gi : sets[i.toNat]? = some (sets.getD i.toNat []) := by rw [List.getD_eq_getElem?_getD, List.getElem?_eq_getElem hil]; rfl
      by_cases hj : j < 0 ∨ (sets.length : Int) ≤ j
      · have e : specUnion (some (n, sets)) i j = ⟨0, false, 3, [(opBag, 1)], some (n, sets)⟩ := by simp only [specUnion, hi, hj, if_true, if_false]
        rw [e]
        refine (Union_err1 B S w hE base b r n sets hbag i.toNat i j (by omega) _ gi hj).mono ?_
        rintro e w' ⟨v, rfl, hc, hbl⟩
        exact ⟨v, rfl, .inr ⟨hc, rfl, by simp⟩, ⟨b, rfl, hbag.below hbl⟩, hbl.mono hbag.facts.1, BagFrame.of_below r hbl, Keeps.of_below _ _ hbl⟩
      · have hjl : j.toNat < sets.length := by omega
        have gj : sets[j.toNat]? = some (sets.getD j.toNat []) := by rw [List.getD_eq_getElem?_getD, List.getElem?_eq_getElem hjl]; rfl
        have e : specUnion (some (n, sets)) i j = specWords n sets (orWords (sets.getD i.toNat []) (sets.getD j.toNat [])) := by simp only [specUnion, hi, hj, if_false]
        rw [e]
        exact (Union_ok B S w hE base b r n sets hbag i.toNat j.toNat i j (by omega) (by omega) _ _ gi gj).mono fun e w' h => h.res hbag.mapCells

theorem refUnion_any {X : Nat → Prop} (w : World) (hX : ∀ k, w.heap.size ≤ k → X k) (base : Nat) (p : Value) (r : Nat) (st : BSt) (hb : RefIn w base p r X st) (i j : Int) :
    Calls Tryd.prog 55 #[p, .int .i64 i, .int .i64 j] w (RefPut X base p r (specUnion st i j) w) := by
  cases st with
  | none =>
    obtain ⟨rfl, hbase⟩ := hb
    refine (refUnion_err w _ i j [] 11 [(opBag, 0)] rfl (fun W _ => refGet_none W i)).mono ?_
    rintro e w' ⟨v, rfl, hc, hbl⟩
    exact ⟨v, rfl, hc, ⟨rfl, Nat.le_trans hbase hbl.size⟩, hbl.mono hbase, RefFrame.of_below r hbl, Keeps.of_below _ _ hbl⟩
  | some s =>
    obtain ⟨n, sets⟩ := s
    obtain ⟨b, rfl, hbag⟩ := hb
    by_cases hi : i < 0 ∨ (sets.length : Int) ≤ i
    · have e : specUnion (some (n, sets)) i j = ⟨0, false, 3, [(opBag, 0)], some (n, sets)⟩ := by simp only [specUnion, hi, if_true]
      rw [e]
      refine (refUnion_err w _ i j [] 3 [(opBag, 0)] rfl (fun W h => refGet_bad W base b r n sets (hbag.below h) i hi)).mono ?_
      rintro e w' ⟨v, rfl, hc, hbl⟩
      exact ⟨v, rfl, hc, ⟨b, rfl, hbag.below hbl⟩, hbl.mono hbag.facts.1, RefFrame.of_below r hbl, Keeps.of_below _ _ hbl⟩
    · have hil : i.toNat < sets.length := by omega
      have gi : sets[i.toNat]? = some (sets.getD i.toNat []) := by rw [List.getD_eq_getElem?_getD, List.getElem?_eq_getElem hil]; rfl
      by_cases hj : j < 0 ∨ (sets.length : Int) ≤ j
      · have e : specUnion (some (n, sets)) i j = ⟨0, false, 3, [(opBag, 1)], some (n, sets)⟩ := by simp only [specUnion, hi, hj, if_true, if_false]
        rw [e]
        refine (refUnion_err1 w _ i j _ [] 3 [(opBag, 0)] rfl (fun W h => refGet_ok W base b r n sets (hbag.below h) i i.toNat (by omega) _ gi) (fun W h => refGet_bad W base b r n sets (hbag.below h) j hj)).mono ?_
        rintro e w' ⟨v, rfl, hc, hbl⟩
        exact ⟨v, rfl, hc, ⟨b, rfl, hbag.below hbl⟩, hbl.mono hbag.facts.1, RefFrame.of_below r hbl, Keeps.of_below _ _ hbl⟩
      · have hjl : j.toNat < sets.length := by omega
        have gj : sets[j.toNat]? = some (sets.getD j.toNat []) := by rw [List.getD_eq_getElem?_getD, List.getElem?_eq_getElem hjl]; rfl
        have e : specUnion (some (n, sets)) i j = specWords n sets (orWords (sets.getD i.toNat []) (sets.getD j.toNat [])) := by simp only [specUnion, hi, hj, if_false]
        rw [e]
        have c1 := hbag.cln _ (List.mem_of_getElem? gi)
        have c2 := hbag.cln _ (List.mem_of_getElem? gj)
        exact (refUnion_ok w hX base b r n sets hbag i.toNat j.toNat i j (by omega) (by omega) _ _ gi gj).mono fun e w' h => h.res hbag.facts.2.2.1 hbag.cln (c1.or c2) hbag.mapCells

/-! ### the other bag's frame -/
theorem BagIn.notCells {w : World} {base : Nat} {p : Value} {r : Nat} {n : Nat} {sets : List (List Int)} (h : BagIn w base p r (some (n, sets))) : ∀ c t f, w.heap[r]? ≠ some (.cells c t f) := by
  obtain ⟨b, rfl, hbag⟩ := h
  obtain ⟨vs, rows, hbag⟩ := hbag
  exact map_not_cells hbag.map
theorem RefIn.notCells {X : Nat → Prop} {w : World} {base : Nat} {p : Value} {r : Nat} {n : Nat} {sets : List (List Int)} (h : RefIn w base p r X (some (n, sets))) : ∀ c t f, w.heap[r]? ≠ some (.cells c t f) := by
  obtain ⟨b, rfl, hbag⟩ := h
  exact map_not_cells hbag.facts.2.2.2.2.2.2
def stLen : BSt → Nat
  | none => 0
  | some (_, sets) => sets.length
theorem bagLen_any (w : World) (base : Nat) (p : Value) (r : Nat) (st : BSt) (hb : BagIn w base p r st) : Calls Tryd.prog 16 #[p] w fun e w' => e = .returned (.int .i64 (stLen st : Int)) ∧ w = w' := by
  cases st with
  | none => obtain ⟨rfl, _⟩ := hb; exact bagLen_nil w
  | some s => obtain ⟨b, rfl, hbag⟩ := hb; exact bagLen_calls w base b r _ _ hbag
theorem refLen_any {X : Nat → Prop} (w : World) (base : Nat) (p : Value) (r : Nat) (st : BSt) (hb : RefIn w base p r X st) : Calls Tryd.prog 19 #[p] w fun e w' => e = .returned (.int .i64 (stLen st : Int)) ∧ w = w' := by
  cases st with
  | none => obtain ⟨rfl, _⟩ := hb; exact refLen_nil w
  | some s => obtain ⟨b, rfl, hbag⟩ := hb; exact refLen_calls w base b r _ _ hbag
end Go.Proofs.YtapebbejdgeijaaDoor
