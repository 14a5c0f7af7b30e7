/- The reference bag in memory. -/
import Derived.Test.YtapebbejdgeijaaDoorRefP
namespace Go.Proofs.YtapebbejdgeijaaDoor
open Go.RowKit Go.Extern.Stop Go.Stop Go.Extern Go.Deep

theorem Tryd.infoInts : (Tryd.prog.info? 22).map (fun i => (i.zero, i.size, i.bytes)) = some (some (.slice none 0 0), 1, 24) := by kernel_rfl

/-- Nothing but the memory of a bag whose map is block r has turned. -/
structure RefFrame (w w' : World) (r : Nat) : Prop where
  os : w'.os = w.os
  tape : w'.tape = w.tape
  output : w'.output = w.output
  size : w.heap.size ≤ w'.heap.size
  same : ∀ k, k < w.heap.size → k ≠ r → (∀ c f, w.heap[k]? ≠ some (.cells c 54 f)) → (∀ c f, w.heap[k]? ≠ some (.cells c 22 f)) → w'.heap[k]? = w.heap[k]?

theorem RefFrame.of_below {w w' : World} (r : Nat) (h : Below w.heap.size w w') : RefFrame w w' r := ⟨h.os, h.tape, h.output, h.size, fun k hk _ _ _ => h.block k hk⟩
theorem RefFrame.own {w w' : World} {r base : Nat} {e : TypeId} {size n : Nat} {v : Value} {xs : List Value} (h : RefFrame w w' r) (ho : w.ownsRow base e size v n xs) (he : e ≠ 54) (he' : e ≠ 22) (hr : ∀ c t f, w.heap[r]? ≠ some (.cells c t f)) : w'.ownsRow base e size v n xs := by
  refine ⟨ho.1, ?_⟩
  rcases ho.2 with h0 | ⟨g, cap, cur, rfl, h2, h3, h4⟩
  · exact .inl h0
  · refine .inr ⟨g, cap, cur, rfl, h2, ?_, h4⟩
    rw [h.same g (Array.getElem?_eq_some_iff.1 h3).1 (fun e => hr _ _ _ (e ▸ h3)) (fun c f h => he (by rw [h3] at h; injection h with h; injection h with _ h)) (fun c f h => he' (by rw [h3] at h; injection h with h; injection h with _ h))]
    exact h3

structure RefRep (w : World) (base b r n : Nat) (sets : List (List Int)) (X : Nat → Prop) (vs : Value) (rows : List Value) : Prop where
  blk : w.heap[b]? = some (.cells #[.int .i64 n, vs, .map (some r)] 54 (0, 0))
  lb : base ≤ b
  lr : base ≤ r
  own : w.ownsRow base 22 1 vs sets.length rows
  elt : ∀ (i : Nat) (ws : List Int), sets[i]? = some ws → ∃ v, rows[i]? = some v ∧ w.ownsRow base 3 1 v (members n ws).length ((members n ws).map (Value.int .i64))
  map : MapSI w r sets.length (refFind n sets)
  cln : ∀ ws ∈ sets, Clean n ws
  len : sets.length ≤ 4096
  nle : n ≤ 8192
  apart : ∀ v ∈ rows, ∀ k, v.ownBlock = some k → X k

def RefAt (w : World) (base b r n : Nat) (sets : List (List Int)) (X : Nat → Prop) : Prop := ∃ vs rows, RefRep w base b r n sets X vs rows

theorem RefRep.below {X : Nat → Prop} {w w' : World} {base b r n : Nat} {sets : List (List Int)} {vs : Value} {rows : List Value} (h : RefRep w base b r n sets X vs rows) (hb : Below w.heap.size w w') : RefRep w' base b r n sets X vs rows where
  apart := h.apart
  blk := by rw [hb.block b (Array.getElem?_eq_some_iff.1 h.blk).1]; exact h.blk
  lb := h.lb
  lr := h.lr
  own := own_below h.own hb (Nat.le_refl _)
  elt i ws hi := by
    obtain ⟨v, h1, h2⟩ := h.elt i ws hi
    exact ⟨v, h1, own_below h2 hb (Nat.le_refl _)⟩
  map := h.map.of_heap (hb.block r h.map.lt)
  cln := h.cln
  len := h.len
  nle := h.nle

theorem RefAt.below {X : Nat → Prop} {w w' : World} {base b r n : Nat} {sets : List (List Int)} (h : RefAt w base b r n sets X) (hb : Below w.heap.size w w') : RefAt w' base b r n sets X := by
  obtain ⟨vs, rows, h⟩ := h
  exact ⟨vs, rows, h.below hb⟩

theorem ref_rep {X : Nat → Prop} {w w1 w2 w3 : World} {base b r n : Nat} {sets : List (List Int)} {ws : List Int} {vs v v3 : Value} {rows : List Value} (hrep : RefRep w base b r n sets X vs rows) (hvX : ∀ k, v.ownBlock = some k → X k) (hb1 : Below w.heap.size w w1)
    (hM2 : MapSI w2 r (sets.length + 1) fun t => if t = keyR (members n ws) then some (sets.length : Int) else refFind n sets t) (hg2 : w1.grownBy w2 (some r)) (hs2 : w2.heap.size = w1.heap.size)
    (hg3 : w2.grownBy w3 vs.ownBlock) (b3 : Below base w w3) (o3 : w3.ownsRow base 22 1 v3 (sets.length + 1) (rows ++ [v])) (hf : refFind n sets (keyR (members n ws)) = none) (hlt : sets.length < 4096)
    (hv : w.ownsRow base 3 1 v (members n ws).length ((members n ws).map (Value.int .i64))) (hw : Clean n ws) (hrne : ∀ c t f, w1.heap[r]? ≠ some (.cells c t f)) :
    Below base w (w3.setCell ⟨b, 1, none⟩ v3) ∧ RefFrame w (w3.setCell ⟨b, 1, none⟩ v3) r ∧ RefAt (w3.setCell ⟨b, 1, none⟩ v3) base b r n (sets ++ [ws]) X := by
  have hrep1 := hrep.below hb1
  have hbr : b ≠ r := fun e => hrne _ _ _ (e ▸ hrep1.blk)
  have hbl1 := (Array.getElem?_eq_some_iff.1 hrep1.blk).1
  have blk2 := (hg2.block b hbl1 (by simpa using hbr)).trans hrep1.blk
  have own2 := hrep1.own.kept hg2 (.inr (Ne.symm (own_not_map hrep1.own hrne)))
  have hbl2 := (Array.getElem?_eq_some_iff.1 blk2).1
  have blk3 := (hg3.block b hbl2 (own_not_block own2 blk2 (by decide))).trans blk2
  have hne3 : ∀ g, v3.ownBlock = some g → g ≠ b := fun g hg e => own_not_block o3 blk3 (by decide) (by rw [hg, e])
  -- a row of words stays
  have keep : ∀ {u : Value} {k : Nat} {xs : List Value}, w.ownsRow base 3 1 u k xs → (w3.setCell ⟨b, 1, none⟩ v3).ownsRow base 3 1 u k xs := fun {u k xs} ho => by
    have ho1 := own_below ho hb1 (Nat.le_refl _)
    have ho2 := ho1.kept hg2 (.inr (Ne.symm (own_not_map ho1 hrne)))
    have ho3 := ho2.kept hg3 (own_type_ne ho2 own2 (by decide))
    exact own_other ho3 ⟨b, 1, none⟩ v3 (fun g hg e => own_not_block ho3 blk3 (by decide) (by rw [hg]; exact congrArg some e.symm))
  refine ⟨Below.setCell b3 (show base ≤ b from hrep.lb) _, ⟨?_, ?_, ?_, ?_, ?_⟩, v3, rows ++ [v], ?_⟩
  · exact b3.os
  · exact b3.tape
  · exact b3.output
  · have := b3.size; simpa [World.setCell] using this
  · intro k hk hkr h1 h2
    have hkb : k ≠ b := fun e => h1 _ _ (e ▸ hrep.blk)
    rw [Below.heap_setCell _ _ _ _ (show k ≠ b from hkb)]
    have e1 := hb1.block k hk
    have e2 := (hg2.block k (Nat.lt_of_lt_of_le hk hb1.size) (by simpa using hkr)).trans e1
    refine (hg3.block k (by have := hb1.size; omega) ?_).trans e2
    intro e
    rcases own2.2 with ⟨rfl, _⟩ | ⟨g, cap, cur, rfl, _, hh, _⟩
    · simp [Value.ownBlock] at e
    · have : k = g := by simpa [Value.ownBlock] using e
      subst this
      rw [e2] at hh
      exact h2 _ _ hh
  · refine ⟨?_, hrep.lb, hrep.lr, ?_, ?_, ?_, ?_, by simp; omega, hrep.nle, fun u hu => by
      rcases List.mem_append.1 hu with h | h
      · exact hrep.apart u h
      · rw [List.mem_singleton.1 h]; exact hvX⟩
    · have := heap_setCell_same w3 b 1 _ _ v3 blk3
      simpa using this
    · rw [List.length_append, List.length_singleton]
      exact own_other o3 ⟨b, 1, none⟩ v3 hne3
    · intro i ws' hi
      have hrl : rows.length = sets.length := by have := hrep.own.1; omega
      rw [List.getElem?_append] at hi
      split at hi
      · rename_i hlt'
        obtain ⟨u, h1, h2⟩ := hrep.elt i ws' hi
        exact ⟨u, by rw [List.getElem?_append_left (by omega)]; exact h1, keep h2⟩
      · rename_i hge
        obtain ⟨hi0, rfl⟩ : i - sets.length = 0 ∧ ws = ws' := by
          have := (List.getElem?_eq_some_iff.1 hi).1
          simp at this
          have e0 : i - sets.length = 0 := by omega
          rw [e0] at hi
          exact ⟨e0, by simpa using hi⟩
        exact ⟨v, by rw [List.getElem?_append_right (by omega), hrl, hi0]; rfl, keep hv⟩
    · rw [List.length_append, List.length_singleton]
      have hfun : (fun t => if t = keyR (members n ws) then some (sets.length : Int) else refFind n sets t) = refFind n (sets ++ [ws]) := funext fun t => (refFind_snoc n sets ws hf t).symm
      rw [hfun] at hM2
      refine hM2.of_heap ?_
      rw [Below.heap_setCell _ _ _ _ (show r ≠ b from Ne.symm hbr)]
      refine hg3.block r hM2.lt ?_
      have hr2 : ∀ c t f, w2.heap[r]? ≠ some (.cells c t f) := fun c t f h => by
        obtain ⟨D, ⟨es, clock, h1, _⟩, _⟩ := hM2
        rw [h1] at h; cases h
      exact own_not_map own2 hr2
    · intro ws' hw'
      rcases List.mem_append.1 hw' with h | h
      · exact hrep.cln ws' h
      · rw [List.mem_singleton.1 h]; exact hw


/-! ### what stays when one block of another type turns -/
theorem own_same {w w' : World} {base : Nat} {e : TypeId} {size n : Nat} {v : Value} {xs : List Value} (h : w.ownsRow base e size v n xs) (k : Nat) (hk : some k ≠ v.ownBlock) (hs : ∀ j, j ≠ k → w'.heap[j]? = w.heap[j]?) : w'.ownsRow base e size v n xs := by
  refine ⟨h.1, ?_⟩
  rcases h.2 with h | ⟨g, cap, cur, rfl, h2, h3, h4⟩
  · exact .inl h
  · exact .inr ⟨g, cap, cur, rfl, h2, by rw [hs g (fun e => hk (by rw [← e]; rfl))]; exact h3, h4⟩
theorem RefAt.same {X : Nat → Prop} {w w' : World} {base b r n : Nat} {sets : List (List Int)} (h : RefAt w base b r n sets X) {k : Nat} {c : Array Value} {f : Nat × Nat} (hk : w.heap[k]? = some (.cells c 39 f)) (hs : ∀ j, j ≠ k → w'.heap[j]? = w.heap[j]?) : RefAt w' base b r n sets X := by
  obtain ⟨vs, rows, h⟩ := h
  refine ⟨vs, rows, ?_, h.lb, h.lr, own_same h.own k (own_not_block h.own hk (by decide)) hs, ?_, ?_, h.cln, h.len, h.nle, h.apart⟩
  · rw [hs b (fun e => by
      have := h.blk
      rw [e, hk] at this
      injection this with this
      injection this with _ this
      exact absurd this (by decide))]
    exact h.blk
  · intro i ws hi
    obtain ⟨v, h1, h2⟩ := h.elt i ws hi
    exact ⟨v, h1, own_same h2 k (own_not_block h2 hk (by decide)) hs⟩
  · refine h.map.of_heap (hs r (fun e => ?_))
    obtain ⟨D, ⟨es, clock, h1, _⟩, _⟩ := h.map
    rw [e, hk] at h1; cases h1
theorem ErrVal.same {w w' : World} {base : Nat} {v : Value} {n : Int} {l : List (ByteArray × Int)} (h : ErrVal w base v n l) {k : Nat} {c : Array Value} {f : Nat × Nat} (hk : w.heap[k]? = some (.cells c 39 f)) (hs : ∀ j, j ≠ k → w'.heap[j]? = w.heap[j]?) : ErrVal w' base v n l := by
  obtain ⟨a, b, rfl, h1, h2⟩ := h
  exact ⟨a, b, rfl, own_same h1 k (own_not_block h1 hk (by decide)) hs, own_same h2 k (own_not_block h2 hk (by decide)) hs⟩
theorem ErrVal.below {w w' : World} {base : Nat} {v : Value} {n : Int} {l : List (ByteArray × Int)} (h : ErrVal w base v n l) (hb : Below w.heap.size w w') : ErrVal w' base v n l := by
  obtain ⟨a, b, rfl, h1, h2⟩ := h
  exact ⟨a, b, rfl, own_below h1 hb (Nat.le_refl _), own_below h2 hb (Nat.le_refl _)⟩
def zeroErr : Value := .agg #[.int .i64 0, .slice none 0 0, .slice none 0 0]
theorem ErrVal.zero (w : World) (base : Nat) : ErrVal w base zeroErr 0 [] := ⟨_, _, rfl, World.ownsRow_nil _ _ _ _, World.ownsRow_nil _ _ _ _⟩

/-- The cell of the named result. -/
def emptyErr : Obj := .cells #[.int .i64 0, .slice none 0 0, .slice none 0 0] 39
structure ErrCell (w : World) (k : Nat) (x y z : Value) : Prop where
  blk : w.heap[k]? = some (.cells #[x, y, z] 39 (0, 0))
theorem ErrCell.c0 {w : World} {k : Nat} {x y z : Value} (h : ErrCell w k x y z) : w.cell? ⟨k, 0, none⟩ = some x := (cells3 h.blk).1
theorem ErrCell.c1 {w : World} {k : Nat} {x y z : Value} (h : ErrCell w k x y z) : w.cell? ⟨k, 1, none⟩ = some y := (cells3 h.blk).2.1
theorem ErrCell.c2 {w : World} {k : Nat} {x y z : Value} (h : ErrCell w k x y z) : w.cell? ⟨k, 2, none⟩ = some z := (cells3 h.blk).2.2
theorem ErrCell.fz {w : World} {k : Nat} {x y z : Value} (h : ErrCell w k x y z) (j : Nat) : w.frozen? ⟨k, j, none⟩ = false := by simp [World.frozen?, h.blk]
def setErr (w : World) (k : Nat) (x y z : Value) : World := ((w.setCell ⟨k, 0, none⟩ x).setCell ⟨k, 1, none⟩ y).setCell ⟨k, 2, none⟩ z
theorem setErr_cell {w : World} {k : Nat} {x y z x' y' z' : Value} (h : ErrCell w k x y z) : ErrCell (setErr w k x' y' z') k x' y' z' := by
  refine ⟨?_⟩
  unfold setErr
  rw [heap_setCell_same _ k 2 _ _ z' (heap_setCell_same _ k 1 _ _ y' (heap_setCell_same w k 0 _ _ x' h.blk))]
  rfl
theorem setErr_same {w : World} {k : Nat} {x' y' z' : Value} : ∀ j, j ≠ k → (setErr w k x' y' z').heap[j]? = w.heap[j]? := fun j hj => by
  unfold setErr
  rw [Below.heap_setCell _ _ _ _ (show j ≠ k from hj), Below.heap_setCell _ _ _ _ (show j ≠ k from hj), Below.heap_setCell _ _ _ _ (show j ≠ k from hj)]
theorem setErr_below {B : Nat} {a w : World} {k : Nat} {x' y' z' : Value} (h : Below B a w) (hk : B ≤ k) : Below B a (setErr w k x' y' z') :=
  Below.setCell (Below.setCell (Below.setCell h (show B ≤ k from hk) _) (show B ≤ k from hk) _) (show B ≤ k from hk) _
theorem ErrCell.new (w : World) : ErrCell (w.alloc (.cells #[.int .i64 0, .slice none 0 0, .slice none 0 0] 39)) w.heap.size (.int .i64 0) (.slice none 0 0) (.slice none 0 0) := ⟨heap_alloc_new w _⟩
theorem ErrCell.below {w w' : World} {k : Nat} {x y z : Value} (h : ErrCell w k x y z) (hb : Below w.heap.size w w') : ErrCell w' k x y z := ⟨(hb.block k (Array.getElem?_eq_some_iff.1 h.blk).1).trans h.blk⟩

theorem ErrCell.facts {w : World} {k : Nat} {x y z : Value} (h : ErrCell w k x y z) (x' y' z' : Value) :
    w.cell? ⟨k, 0, none⟩ = some x ∧ w.frozen? ⟨k, 0, none⟩ = false ∧ (w.setCell ⟨k, 0, none⟩ x').cell? ⟨k, 1, none⟩ = some y ∧ (w.setCell ⟨k, 0, none⟩ x').frozen? ⟨k, 1, none⟩ = false ∧
    ((w.setCell ⟨k, 0, none⟩ x').setCell ⟨k, 1, none⟩ y').cell? ⟨k, 2, none⟩ = some z ∧ ((w.setCell ⟨k, 0, none⟩ x').setCell ⟨k, 1, none⟩ y').frozen? ⟨k, 2, none⟩ = false ∧
    (((w.setCell ⟨k, 0, none⟩ x').setCell ⟨k, 1, none⟩ y').setCell ⟨k, 2, none⟩ z').cell? ⟨k, 0, none⟩ = some x' ∧ (((w.setCell ⟨k, 0, none⟩ x').setCell ⟨k, 1, none⟩ y').setCell ⟨k, 2, none⟩ z').cell? ⟨k, 1, none⟩ = some y' ∧ (((w.setCell ⟨k, 0, none⟩ x').setCell ⟨k, 1, none⟩ y').setCell ⟨k, 2, none⟩ z').cell? ⟨k, 2, none⟩ = some z' := by
  have h1 : ErrCell (w.setCell ⟨k, 0, none⟩ x') k x' y z := ⟨by rw [heap_setCell_same w k 0 _ _ x' h.blk]; rfl⟩
  have h2 : ErrCell ((w.setCell ⟨k, 0, none⟩ x').setCell ⟨k, 1, none⟩ y') k x' y' z := ⟨by rw [heap_setCell_same _ k 1 _ _ y' h1.blk]; rfl⟩
  have h3 : ErrCell (((w.setCell ⟨k, 0, none⟩ x').setCell ⟨k, 1, none⟩ y').setCell ⟨k, 2, none⟩ z') k x' y' z' := ⟨by rw [heap_setCell_same _ k 2 _ _ z' h2.blk]; rfl⟩
  exact ⟨h.c0, h.fz 0, h1.c1, h1.fz 1, h2.c2, h2.fz 2, h3.c0, h3.c1, h3.c2⟩

set_option maxRecDepth 100000 in
theorem refNew_ok {X : Nat → Prop} (w : World) (n : Nat) (hn : n ≤ 8192) :
    Calls Tryd.prog 17 #[.int .i64 n] w fun e w' => ∃ b r, e = .returned (.tuple #[.pointer (some ⟨b, 0, none⟩), zeroErr]) ∧ RefAt w' w.heap.size b r n [] X ∧ Below w.heap.size w w' := by
  have hmm := @run_makeMap Tryd.prog
  go_enter Tryd.func17, Tryd.ntmps17
  go_wp2_with fail
  have hT : (Below w.heap.size w (((w.alloc (.cells #[.int .i64 0, .slice none 0 0, .slice none 0 0] 39)).alloc (.map #[] 0)).alloc (.cells #[.int .i64 n, .slice none 0 0, .map (some (w.heap.size + 1))] 54))) := (((Below.refl _ _).alloc (Nat.le_refl _) _).alloc (by simp) _).alloc (by simp; omega) _
  have hc : ∀ j v, (#[Value.int .i64 0, .slice none 0 0, .slice none 0 0] : Array Value)[j]? = some v → (((w.alloc (.cells #[.int .i64 0, .slice none 0 0, .slice none 0 0] 39)).alloc (.map #[] 0)).alloc (.cells #[.int .i64 n, .slice none 0 0, .map (some (w.heap.size + 1))] 54)).cell? ⟨w.heap.size, j, none⟩ = some v := fun j v h => by
    rw [World.cell?_alloc_lt _ _ _ (by simp; omega), World.cell?_alloc_lt _ _ _ (by simp)]
    simpa using h
  have c0 := hc 0 _ rfl
  have c1 := hc 1 _ rfl
  have c2 := hc 2 _ rfl
  refine bodyPost_ret (v := .tuple #[.pointer (some ⟨w.heap.size + 1 + 1, 0, none⟩), zeroErr]) (by simp [results, Tryd.results17, go_sem, zeroErr]) rfl ?_
  refine ⟨_, w.heap.size + 1, rfl, ⟨.slice none 0 0, [], ?_⟩, hT⟩
  refine ⟨?_, by omega, by omega, World.ownsRow_nil _ _ _ _, fun i ws h => by simp at h, ?_, by simp, by simp, hn, by simp⟩
  · have := heap_alloc_new ((w.alloc (.cells #[.int .i64 0, .slice none 0 0, .slice none 0 0] 39)).alloc (.map #[] 0)) (.cells #[.int .i64 n, .slice none 0 0, .map (some (w.heap.size + 1))] 54)
    simpa using this
  · have := MapSI.made (w.alloc (.cells #[.int .i64 0, .slice none 0 0, .slice none 0 0] 39))
    have e : (w.alloc (.cells #[.int .i64 0, .slice none 0 0, .slice none 0 0] 39)).heap.size = w.heap.size + 1 := by simp
    rw [e] at this
    exact this.of_heap (by rw [Below.heap_alloc _ _ _ (by simp)])

theorem rawNew_form (w : World) (op : ByteArray) (at_ n : Int) :
    Calls Tryd.prog 15 #[.string op, .int .i64 at_, .int .i64 n] w fun e w' => ∃ Aa ca Ab cb, e = .returned (.agg #[.int .i64 n, .slice Aa 1 ca, .slice Ab 1 cb]) ∧ ErrVal w' w.heap.size (.agg #[.int .i64 n, .slice Aa 1 ca, .slice Ab 1 cb]) n [(op, at_)] ∧ Below w.heap.size w w' := by
  refine (rawNew_calls w op at_ n).mono ?_
  rintro e w' ⟨v, rfl, ⟨ga, gb, rfl, hga, hgb⟩, hb⟩
  obtain ⟨Aa, ca, rfl, _, _⟩ := own_slice hga
  obtain ⟨Ab, cb, rfl, _, _⟩ := own_slice hgb
  exact ⟨Aa, ca, Ab, cb, rfl, ⟨_, _, rfl, hga, hgb⟩, hb⟩
theorem err_end {w : World} {base k : Nat} {v x y z x' y' z' : Value} {n : Int} {l : List (ByteArray × Int)} (hc : ErrCell w k x y z) (h : ErrVal w base v n l) : ErrVal (setErr w k x' y' z') 0 v n l := by
  obtain ⟨a, b, rfl, h1, h2⟩ := h
  exact ErrVal.same ⟨a, b, rfl, own_base h1 (Nat.zero_le _), own_base h2 (Nat.zero_le _)⟩ hc.blk setErr_same

set_option maxRecDepth 100000 in
theorem refNew_err (w : World) (n : Int) (hn : n < 0 ∨ 8192 < n) :
    Calls Tryd.prog 17 #[.int .i64 n] w fun e w' => ∃ v, e = .returned (.tuple #[.pointer none, v]) ∧ ErrVal w' 0 v (if n < 0 then 3 else 4) [(opBag, 0)] ∧ Below w.heap.size w w' := by
  have HCELL := hid (ErrCell.new w)
  have HBW := hid (below_new w (.cells #[.int .i64 0, .slice none 0 0, .slice none 0 0] 39))
  rcases hn with hn | hn
  · rw [if_pos hn]
    go_enter Tryd.func17, Tryd.ntmps17
    go_wp2_with fail
    refine (rawNew_form _ _ _ _).mono ?_
    rintro e w9 ⟨Aa, ca, Ab, cb, rfl, herr9, hb9⟩
    have HC9 : Hid (ErrCell w9 w.heap.size (.int .i64 0) (.slice none 0 0) (.slice none 0 0)) := HCELL.out.below hb9
    obtain ⟨c0, f0, c1, f1, c2, f2, r0, r1, r2⟩ := HC9.out.facts (.int .i64 3) (.slice Aa 1 ca) (.slice Ab 1 cb)
    have HB9 := hid (below_then HBW.out hb9 HBW.out.size)
    have HERR := hid herr9
    clear hb9 herr9
    go_wp2_with fail
    refine bodyPost_ret (v := .tuple #[.pointer none, .agg #[.int .i64 3, .slice Aa 1 ca, .slice Ab 1 cb]]) (by simp [results, Tryd.results17, go_sem, r0, r1, r2]) rfl ?_
    exact ⟨_, rfl, err_end HC9.out HERR.out, setErr_below HB9.out (Nat.le_refl _)⟩
  · rw [if_neg (by omega)]
    go_enter Tryd.func17, Tryd.ntmps17
    go_wp2_with fail
    refine (rawNew_form _ _ _ _).mono ?_
    rintro e w9 ⟨Aa, ca, Ab, cb, rfl, herr9, hb9⟩
    have HC9 : Hid (ErrCell w9 w.heap.size (.int .i64 0) (.slice none 0 0) (.slice none 0 0)) := HCELL.out.below hb9
    obtain ⟨c0, f0, c1, f1, c2, f2, r0, r1, r2⟩ := HC9.out.facts (.int .i64 4) (.slice Aa 1 ca) (.slice Ab 1 cb)
    have HB9 := hid (below_then HBW.out hb9 HBW.out.size)
    have HERR := hid herr9
    clear hb9 herr9
    go_wp2_with fail
    refine bodyPost_ret (v := .tuple #[.pointer none, .agg #[.int .i64 4, .slice Aa 1 ca, .slice Ab 1 cb]]) (by simp [results, Tryd.results17, go_sem, r0, r1, r2]) rfl ?_
    exact ⟨_, rfl, err_end HC9.out HERR.out, setErr_below HB9.out (Nat.le_refl _)⟩

theorem refLen_calls {X : Nat → Prop} (w : World) (base b r n : Nat) (sets : List (List Int)) (hbag : RefAt w base b r n sets X) :
    Calls Tryd.prog 19 #[.pointer (some ⟨b, 0, none⟩)] w fun e w' => e = .returned (.int .i64 (sets.length : Int)) ∧ w = w' := by
  obtain ⟨vs, rows, h⟩ := hbag
  obtain ⟨A', c', rfl, hc', hm'⟩ := own_slice h.own
  have h1 := (cells3 h.blk).2.1
  clear h
  go_enter Tryd.func19, Tryd.ntmps19
  go_wp2
  go_ret
  exact ⟨rfl, rfl⟩

theorem refLen_nil (w : World) : Calls Tryd.prog 19 #[.pointer none] w fun e w' => e = .returned (.int .i64 0) ∧ w = w' := by
  go_enter Tryd.func19, Tryd.ntmps19
  go_wp2
  go_ret
  exact ⟨rfl, rfl⟩

set_option maxRecDepth 100000 in
theorem refGet_nil (w : World) (i : Int) :
    Calls Tryd.prog 51 #[.pointer none, .int .i64 i] w fun e w' => ∃ v, e = .returned (.tuple #[.slice none 0 0, v]) ∧ ErrVal w' 0 v 11 [(opBag, 0)] ∧ Below w.heap.size w w' := by
  have HCELL := hid (ErrCell.new w)
  have HBW := hid (below_new w (.cells #[.int .i64 0, .slice none 0 0, .slice none 0 0] 39))
  go_enter Tryd.func51, Tryd.ntmps51
  go_wp2_with fail
  refine (rawNew_form _ _ _ _).mono ?_
  rintro e w9 ⟨Aa, ca, Ab, cb, rfl, herr9, hb9⟩
  have HC9 : Hid (ErrCell w9 w.heap.size (.int .i64 0) (.slice none 0 0) (.slice none 0 0)) := HCELL.out.below hb9
  obtain ⟨c0, f0, c1, f1, c2, f2, r0, r1, r2⟩ := HC9.out.facts (.int .i64 11) (.slice Aa 1 ca) (.slice Ab 1 cb)
  have HB9 := hid (below_then HBW.out hb9 HBW.out.size)
  have HERR := hid herr9
  clear hb9 herr9
  go_wp2_with fail
  refine bodyPost_ret (v := .tuple #[.slice none 0 0, .agg #[.int .i64 11, .slice Aa 1 ca, .slice Ab 1 cb]]) (by simp [results, Tryd.results51, go_sem, r0, r1, r2]) rfl ?_
  exact ⟨_, rfl, err_end HC9.out HERR.out, setErr_below HB9.out (Nat.le_refl _)⟩

set_option maxRecDepth 100000 in
theorem refGet_err {X : Nat → Prop} (w : World) (base b r n : Nat) (sets : List (List Int)) (hbag : RefAt w base b r n sets X) (i : Int) (hi : i < 0 ∨ (sets.length : Int) ≤ i) :
    Calls Tryd.prog 51 #[.pointer (some ⟨b, 0, none⟩), .int .i64 i] w fun e w' => ∃ v, e = .returned (.tuple #[.slice none 0 0, v]) ∧ ErrVal w' 0 v 3 [(opBag, 0)] ∧ Below w.heap.size w w' := by
  have HCELL := hid (ErrCell.new w)
  have HBW := hid (below_new w (.cells #[.int .i64 0, .slice none 0 0, .slice none 0 0] 39))
  have hbag1 := hbag.below HBW.out
  obtain ⟨vs, rows, h⟩ := hbag1
  obtain ⟨A', c', rfl, hc', hm'⟩ := own_slice h.own
  have h1 := (cells3 h.blk).2.1
  clear h hbag
  rcases hi with hi | hi
  · go_enter Tryd.func51, Tryd.ntmps51
    go_wp2_with fail
    refine (rawNew_form _ _ _ _).mono ?_
    rintro e w9 ⟨Aa, ca, Ab, cb, rfl, herr9, hb9⟩
    have HC9 : Hid (ErrCell w9 w.heap.size (.int .i64 0) (.slice none 0 0) (.slice none 0 0)) := HCELL.out.below hb9
    obtain ⟨c0, f0, c1, f1, c2, f2, r0, r1, r2⟩ := HC9.out.facts (.int .i64 3) (.slice Aa 1 ca) (.slice Ab 1 cb)
    have HB9 := hid (below_then HBW.out hb9 HBW.out.size)
    have HERR := hid herr9
    clear hb9 herr9
    go_wp2_with fail
    refine bodyPost_ret (v := .tuple #[.slice none 0 0, .agg #[.int .i64 3, .slice Aa 1 ca, .slice Ab 1 cb]]) (by simp [results, Tryd.results51, go_sem, r0, r1, r2]) rfl ?_
    exact ⟨_, rfl, err_end HC9.out HERR.out, setErr_below HB9.out (Nat.le_refl _)⟩
  · have hi0 : ¬ i < 0 := by omega
    go_enter Tryd.func51, Tryd.ntmps51
    go_wp2_with fail
    refine (rawNew_form _ _ _ _).mono ?_
    rintro e w9 ⟨Aa, ca, Ab, cb, rfl, herr9, hb9⟩
    have HC9 : Hid (ErrCell w9 w.heap.size (.int .i64 0) (.slice none 0 0) (.slice none 0 0)) := HCELL.out.below hb9
    obtain ⟨c0, f0, c1, f1, c2, f2, r0, r1, r2⟩ := HC9.out.facts (.int .i64 3) (.slice Aa 1 ca) (.slice Ab 1 cb)
    have HB9 := hid (below_then HBW.out hb9 HBW.out.size)
    have HERR := hid herr9
    clear hb9 herr9
    go_wp2_with fail
    refine bodyPost_ret (v := .tuple #[.slice none 0 0, .agg #[.int .i64 3, .slice Aa 1 ca, .slice Ab 1 cb]]) (by simp [results, Tryd.results51, go_sem, r0, r1, r2]) rfl ?_
    exact ⟨_, rfl, err_end HC9.out HERR.out, setErr_below HB9.out (Nat.le_refl _)⟩
end Go.Proofs.YtapebbejdgeijaaDoor
