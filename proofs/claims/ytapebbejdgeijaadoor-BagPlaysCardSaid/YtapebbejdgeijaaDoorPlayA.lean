/- Both bags side by side: what the one does leaves the other; what a call of both must give. -/
import Derived.Test.YtapebbejdgeijaaDoorRefG
import Derived.Test.YtapebbejdgeijaaDoorBagF
namespace Go.Proofs.YtapebbejdgeijaaDoor
open Go.RowKit Go.Extern.Stop Go.Stop Go.Extern Go.Deep

theorem map_not_cells {w : World} {r k : Nat} {f : List UInt8 → Option Int} (h : MapSI w r k f) : ∀ c t g, w.heap[r]? ≠ some (.cells c t g) := fun c t g hh => by
  obtain ⟨D, ⟨es, clock, h1, _⟩, _⟩ := h
  rw [h1] at hh; cases hh

/-- The bag's own turning leaves the reference. -/
theorem RefAt.bagFrame {X : Nat → Prop} {w w' : World} {base b r r' n : Nat} {sets : List (List Int)} (h : RefAt w base b r' n sets X) (hf : BagFrame w w' r) (hr : r' ≠ r) (hm : ∀ c t g, w.heap[r]? ≠ some (.cells c t g)) : RefAt w' base b r' n sets X := by
  obtain ⟨vs, rows, h⟩ := h
  have hbl := (Array.getElem?_eq_some_iff.1 h.blk).1
  refine ⟨vs, rows, ?_, h.lb, h.lr, hf.own h.own (by decide) (by decide) hm, ?_, ?_, h.cln, h.len, h.nle, h.apart⟩
  · refine (hf.same b hbl (fun e => hm _ _ _ (e ▸ h.blk)) (fun c f hh => ?_) (fun c f hh => ?_)).trans h.blk
    · rw [h.blk] at hh; injection hh with hh; injection hh with _ hh; exact absurd hh (by decide)
    · rw [h.blk] at hh; injection hh with hh; injection hh with _ hh; exact absurd hh (by decide)
  · intro i ws hi
    obtain ⟨v, h1, h2⟩ := h.elt i ws hi
    exact ⟨v, h1, hf.own h2 (by decide) (by decide) hm⟩
  · exact h.map.of_heap (hf.same r' h.map.lt hr (fun c f => map_not_cells h.map _ _ _) (fun c f => map_not_cells h.map _ _ _))

/-- .. and the other way. -/
theorem BagAt.refFrame {w w' : World} {base b r r' n : Nat} {sets : List (List Int)} (h : BagAt w base b r n sets) (hf : RefFrame w w' r') (hr : r ≠ r') (hm : ∀ c t g, w.heap[r']? ≠ some (.cells c t g)) : BagAt w' base b r n sets := by
  obtain ⟨vs, rows, h⟩ := h
  have hbl := (Array.getElem?_eq_some_iff.1 h.blk).1
  refine ⟨vs, rows, ?_, h.lb, h.lr, hf.own h.own (by decide) (by decide) hm, ?_, ?_, h.rng, h.len, h.nle⟩
  · refine (hf.same b hbl (fun e => hm _ _ _ (e ▸ h.blk)) (fun c f hh => ?_) (fun c f hh => ?_)).trans h.blk
    · rw [h.blk] at hh; injection hh with hh; injection hh with _ hh; exact absurd hh (by decide)
    · rw [h.blk] at hh; injection hh with hh; injection hh with _ hh; exact absurd hh (by decide)
  · intro i ws hi
    obtain ⟨v, h1, h2⟩ := h.elt i ws hi
    exact ⟨v, h1, hf.own h2 (by decide) (by decide) hm⟩
  · exact h.map.of_heap (hf.same r h.map.lt hr (fun c f => map_not_cells h.map _ _ _) (fun c f => map_not_cells h.map _ _ _))

/-- What the program's side answers where the document's error is this. -/
def OpRes (S : Nat → Addr) (w : World) (v : Value) (N : Int) (l : List (ByteArray × Int)) : Prop := (v = .nilIface ∧ N = 0) ∨ (Chain S w v (rootIx N) l ∧ (N == 0) = false ∧ l ≠ [])
theorem OpRes.form {S : Nat → Addr} {w : World} {v : Value} {N : Int} {l : List (ByteArray × Int)} (h : OpRes S w v N l) : v = .nilIface ∨ ∃ t a, v = .iface t (.pointer (some a)) := by
  rcases h with ⟨h, _⟩ | ⟨h, _⟩
  · exact .inl h
  · exact .inr h.form
theorem OpRes.below {S : Nat → Addr} {w w' : World} {v : Value} {N : Int} {l : List (ByteArray × Int)} (h : OpRes S w v N l) (hb : Below w.heap.size w w') : OpRes S w' v N l := by
  rcases h with h | ⟨h1, h2⟩
  · exact .inl h
  · exact .inr ⟨Chain.below hb h1, h2⟩
theorem rawIs_any (B : Nat) (S : Nat → Addr) (w : World) (hE : Env B S w) (v want : Value) (N : Int) (l : List (ByteArray × Int)) (hv : OpRes S w v N l) (hw : ErrVal w 0 want N l) : Calls Tryd.prog 14 #[v, want] w (RetTrue w) := by
  rcases hv with ⟨rfl, rfl⟩ | ⟨h1, h2, h3⟩
  · obtain ⟨a, b, rfl, _, _⟩ := hw
    exact rawIs_nil a b w
  · exact rawIs_err B S w hE v N l h1 h2 want hw h3

/-! ### what both must do -/
abbrev BSt := Option (Nat × List (List Int))
structure PutRes where
  id : Int
  fresh : Bool
  N : Int
  l : List (ByteArray × Int)
  st : BSt
def specWords (n : Nat) (sets : List (List Int)) (ws : List Int) : PutRes :=
  match bagFind sets (keyB ws) with
  | some id => ⟨id, false, 0, [], some (n, sets)⟩
  | none => if sets.length = 4096 then ⟨0, false, 4, [(opBag, 0)], some (n, sets)⟩ else ⟨(sets.length : Int), true, 0, [], some (n, sets ++ [ws])⟩
def specPut : BSt → List Int → PutRes
  | none, _ => ⟨0, false, 11, [(opBag, 0)], none⟩
  | some (n, sets), xs => match firstBad n xs with
    | some i => ⟨0, false, 3, [(opBag, (i : Int))], some (n, sets)⟩
    | none => specWords n sets (bitsOf n xs)

def BagIn (w : World) (base : Nat) (p : Value) (r : Nat) : BSt → Prop
  | none => p = .pointer none ∧ base ≤ w.heap.size
  | some (n, sets) => ∃ b, p = .pointer (some ⟨b, 0, none⟩) ∧ BagAt w base b r n sets
def RefIn (w : World) (base : Nat) (p : Value) (r : Nat) (X : Nat → Prop) : BSt → Prop
  | none => p = .pointer none ∧ base ≤ w.heap.size
  | some (n, sets) => ∃ b, p = .pointer (some ⟨b, 0, none⟩) ∧ RefAt w base b r n sets X

/-- Cells of other types than these two stay. -/
def Keeps (w w' : World) (t1 t2 : TypeId) : Prop := ∀ (k : Nat) (c : Array Value) (t : TypeId) (f : Nat × Nat), w.heap[k]? = some (.cells c t f) → t ≠ t1 → t ≠ t2 → w'.heap[k]? = some (.cells c t f)
theorem Keeps.of_below {w w' : World} (t1 t2 : TypeId) (h : Below w.heap.size w w') : Keeps w w' t1 t2 := fun k _ _ _ hk _ _ => (h.block k (Array.getElem?_eq_some_iff.1 hk).1).trans hk
theorem BagFrame.keeps {w w' : World} {r : Nat} (h : BagFrame w w' r) (hm : ∀ c t f, w.heap[r]? ≠ some (.cells c t f)) : Keeps w w' 82 83 := fun k c t f hk h1 h2 =>
  (h.same k (Array.getElem?_eq_some_iff.1 hk).1 (fun e => hm _ _ _ (e ▸ hk)) (fun c' f' hh => by rw [hk] at hh; injection hh with hh; injection hh with _ hh; exact h1 hh) (fun c' f' hh => by rw [hk] at hh; injection hh with hh; injection hh with _ hh; exact h2 hh)).trans hk
theorem RefFrame.keeps {w w' : World} {r : Nat} (h : RefFrame w w' r) (hm : ∀ c t f, w.heap[r]? ≠ some (.cells c t f)) : Keeps w w' 54 22 := fun k c t f hk h1 h2 =>
  (h.same k (Array.getElem?_eq_some_iff.1 hk).1 (fun e => hm _ _ _ (e ▸ hk)) (fun c' f' hh => by rw [hk] at hh; injection hh with hh; injection hh with _ hh; exact h1 hh) (fun c' f' hh => by rw [hk] at hh; injection hh with hh; injection hh with _ hh; exact h2 hh)).trans hk
theorem BagAt.mapCells {w : World} {base b r n : Nat} {sets : List (List Int)} (h : BagAt w base b r n sets) : ∀ c t f, w.heap[r]? ≠ some (.cells c t f) := by
  obtain ⟨vs, rows, h⟩ := h
  exact map_not_cells h.map
theorem RefAt.mapCells {X : Nat → Prop} {w : World} {base b r n : Nat} {sets : List (List Int)} (h : RefAt w base b r n sets X) : ∀ c t f, w.heap[r]? ≠ some (.cells c t f) := by
  obtain ⟨vs, rows, h⟩ := h
  exact map_not_cells h.map

def BagPut (S : Nat → Addr) (base : Nat) (p : Value) (r : Nat) (q : PutRes) (w : World) (e : Ending) (w' : World) : Prop :=
  ∃ v, e = .returned (.tuple #[.int .i64 q.id, .bool q.fresh, v]) ∧ OpRes S w' v q.N q.l ∧ BagIn w' base p r q.st ∧ Below base w w' ∧ BagFrame w w' r ∧ Keeps w w' 82 83

theorem PutPost.res {S : Nat → Addr} {base b r n : Nat} {sets : List (List Int)} {ws : List Int} {w w' : World} {e : Ending} (h : PutPost S base b r n sets ws w e w') (hm : ∀ c t f, w.heap[r]? ≠ some (.cells c t f)) : BagPut S base (.pointer (some ⟨b, 0, none⟩)) r (specWords n sets ws) w e w' := by
  obtain ⟨h1, h2, h3⟩ := h
  unfold specWords
  split at h3
  · rename_i id hid'
    rw [hid']
    exact ⟨.nilIface, h3.1, .inl ⟨rfl, rfl⟩, ⟨b, rfl, h3.2⟩, h1, h2, h2.keeps hm⟩
  · rename_i hn
    rw [hn]
    by_cases hl : sets.length = 4096
    · rw [if_pos hl] at h3
      obtain ⟨v, he, hc, hb⟩ := h3
      simp only [hl, if_true]
      exact ⟨v, he, .inr ⟨hc, rfl, by simp⟩, ⟨b, rfl, hb⟩, h1, h2, h2.keeps hm⟩
    · rw [if_neg hl] at h3
      simp only [hl, if_false]
      exact ⟨.nilIface, h3.1, .inl ⟨rfl, rfl⟩, ⟨b, rfl, h3.2⟩, h1, h2, h2.keeps hm⟩

theorem bagPut_any (B : Nat) (S : Nat → Addr) (w : World) (hE : Env B S w) (base : Nat) (p : Value) (r : Nat) (st : BSt) (hb : BagIn w base p r st) (A : Option Addr) (m c : Nat) (xs : List Int) (hm : m = xs.length) (hr : RI w .i64 A xs) :
    Calls Tryd.prog 10 #[p, .slice A m c] w (BagPut S base p r (specPut st xs) w) := by
  subst hm
  cases st with
  | none =>
    obtain ⟨rfl, hbase⟩ := hb
    refine (Put_nil B S w hE _).mono ?_
    rintro e w' ⟨v, rfl, hc, hbl⟩
    exact ⟨v, rfl, .inr ⟨hc, rfl, by simp [specPut]⟩, ⟨rfl, Nat.le_trans hbase hbl.size⟩, hbl.mono hbase, BagFrame.of_below r hbl, Keeps.of_below _ _ hbl⟩
  | some s =>
    obtain ⟨n, sets⟩ := s
    obtain ⟨b, rfl, hbag⟩ := hb
    refine (Put_calls B S w hE base b r n sets A c xs hbag hr).mono ?_
    intro e w' h
    unfold PutsPost at h
    unfold specPut
    split at h
    · rename_i i hi
      simp only [hi]
      obtain ⟨v, rfl, hc, hb, hbl⟩ := h
      exact ⟨v, rfl, .inr ⟨hc, rfl, by simp⟩, ⟨b, rfl, hb⟩, hbl.mono hbag.facts.1, BagFrame.of_below r hbl, Keeps.of_below _ _ hbl⟩
    · rename_i hn
      simp only [hn]
      exact h.res hbag.mapCells

def RefPut (X : Nat → Prop) (base : Nat) (p : Value) (r : Nat) (q : PutRes) (w : World) (e : Ending) (w' : World) : Prop :=
  ∃ v, e = .returned (.tuple #[.int .i64 q.id, .bool q.fresh, v]) ∧ ErrVal w' 0 v q.N q.l ∧ RefIn w' base p r X q.st ∧ Below base w w' ∧ RefFrame w w' r ∧ Keeps w w' 54 22

theorem RPutPost.res {X : Nat → Prop} {base b r n : Nat} {sets : List (List Int)} {ws : List Int} {w w' : World} {e : Ending} (h : RPutPost X base b r n sets ws w e w') (hn : n ≤ 8192) (hs : ∀ ws ∈ sets, Clean n ws) (hw : Clean n ws) (hm : ∀ c t f, w.heap[r]? ≠ some (.cells c t f)) : RefPut X base (.pointer (some ⟨b, 0, none⟩)) r (specWords n sets ws) w e w' := by
  obtain ⟨h1, h2, h3⟩ := h
  rw [refFind_bagFind hn hs hw] at h3
  unfold specWords
  split at h3
  · rename_i id hid'
    rw [hid']
    obtain ⟨v, he, hv, hb⟩ := h3
    exact ⟨v, he, hv, ⟨b, rfl, hb⟩, h1, h2, h2.keeps hm⟩
  · rename_i hno
    rw [hno]
    by_cases hl : sets.length = 4096
    · rw [if_pos hl] at h3
      obtain ⟨v, he, hv, hb⟩ := h3
      simp only [hl, if_true]
      exact ⟨v, he, hv, ⟨b, rfl, hb⟩, h1, h2, h2.keeps hm⟩
    · rw [if_neg hl] at h3
      obtain ⟨v, he, hv, hb⟩ := h3
      simp only [hl, if_false]
      exact ⟨v, he, hv, ⟨b, rfl, hb⟩, h1, h2, h2.keeps hm⟩

theorem RefAt.cln {X : Nat → Prop} {w : World} {base b r n : Nat} {sets : List (List Int)} (h : RefAt w base b r n sets X) : ∀ ws ∈ sets, Clean n ws := by
  obtain ⟨vs, rows, h⟩ := h
  exact h.cln

theorem refPut_any {X : Nat → Prop} (w : World) (hX : ∀ k, w.heap.size ≤ k → X k) (base : Nat) (p : Value) (r : Nat) (st : BSt) (hb : RefIn w base p r X st) (A : Option Addr) (m c : Nat) (xs : List Int) (hm : m = xs.length) (hr : RI w .i64 A xs) (hA : A = none → c = 0) (hl : xs.length * 8 ≤ 140737488355328) :
    Calls Tryd.prog 49 #[p, .slice A m c] w (RefPut X base p r (specPut st xs) w) := by
  cases st with
  | none =>
    obtain ⟨rfl, hbase⟩ := hb
    refine (refPut_nil w _).mono ?_
    rintro e w' ⟨v, rfl, hc, hbl⟩
    exact ⟨v, rfl, hc, ⟨rfl, Nat.le_trans hbase hbl.size⟩, hbl.mono hbase, RefFrame.of_below r hbl, Keeps.of_below _ _ hbl⟩
  | some s =>
    obtain ⟨n, sets⟩ := s
    obtain ⟨b, rfl, hbag⟩ := hb
    cases hf : firstBad n xs with
    | some i =>
      have e : specPut (some (n, sets)) xs = ⟨0, false, 3, [(opBag, (i : Int))], some (n, sets)⟩ := by simp only [specPut, hf]
      rw [e]
      refine (refPut_bad w base b r n sets A m c xs hm hbag hr i hf).mono ?_
      rintro e w' ⟨v, rfl, hc, hbl⟩
      exact ⟨v, rfl, hc, ⟨b, rfl, hbag.below hbl⟩, hbl.mono hbag.facts.1, RefFrame.of_below r hbl, Keeps.of_below _ _ hbl⟩
    | none =>
      have e : specPut (some (n, sets)) xs = specWords n sets (bitsOf n xs) := by simp only [specPut, hf]
      rw [e]
      have hall := firstBad_all hf
      refine (refPut_ok w hX base b r n sets A m c xs (bitsOf n xs) hm hbag hr hA hl hf (Clean.bitsOf hall) (rset_members hall)).mono ?_
      intro e w' h
      exact h.res hbag.facts.2.2.1 hbag.cln (Clean.bitsOf hall) hbag.mapCells
end Go.Proofs.YtapebbejdgeijaaDoor
