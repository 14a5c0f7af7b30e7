/- bag: what a bag is in memory; put. -/
import Derived.Test.YtapebbejdgeijaaDoorBagB
import Derived.Test.YtapebbejdgeijaaDoorMaps
namespace Go.Proofs.YtapebbejdgeijaaDoor
open Go.RowKit Go.Extern.Stop Go.Stop Go.Extern Go.Deep

theorem Tryd.infoU64s : (Tryd.prog.info? 83).map (fun i => (i.zero, i.size, i.bytes)) = some (some (.slice none 0 0), 1, 24) := by kernel_rfl

def keyB (ws : List Int) : List UInt8 := (strOfNums (keyOf ws)).data.toList
def bagFind (sets : List (List Int)) (t : List UInt8) : Option Int := Option.map (fun i : Nat => (i : Int)) (sets.findIdx? fun ws => decide (keyB ws = t))

theorem bagFind_snoc (sets : List (List Int)) (ws : List Int) (h : bagFind sets (keyB ws) = none) (t : List UInt8) :
    bagFind (sets ++ [ws]) t = if t = keyB ws then some (sets.length : Int) else bagFind sets t := by
  unfold bagFind at *
  rw [List.findIdx?_append]
  have h0 : sets.findIdx? (fun ws' => decide (keyB ws' = keyB ws)) = none := Option.map_eq_none_iff.1 h
  by_cases ht : t = keyB ws
  · subst ht
    rw [h0]
    simp
  · rw [if_neg ht]
    cases hs : sets.findIdx? (fun ws' => decide (keyB ws' = t)) with
    | some i => simp
    | none => simp [Ne.symm ht]

theorem bagFind_lt {sets : List (List Int)} {t : List UInt8} {i : Int} (h : bagFind sets t = some i) : 0 ≤ i ∧ i < sets.length := by
  unfold bagFind at h
  obtain ⟨j, hj, rfl⟩ := Option.map_eq_some_iff.1 h
  have := (List.findIdx?_eq_some_iff_getElem.1 hj).1
  omega

/-- Nothing but the memory of a bag whose map is block r has turned. -/
structure BagFrame (w w' : World) (r : Nat) : Prop where
  os : w'.os = w.os
  tape : w'.tape = w.tape
  output : w'.output = w.output
  size : w.heap.size ≤ w'.heap.size
  same : ∀ k, k < w.heap.size → k ≠ r → (∀ c f, w.heap[k]? ≠ some (.cells c 82 f)) → (∀ c f, w.heap[k]? ≠ some (.cells c 83 f)) → w'.heap[k]? = w.heap[k]?

theorem BagFrame.of_below {w w' : World} (r : Nat) (h : Below w.heap.size w w') : BagFrame w w' r := ⟨h.os, h.tape, h.output, h.size, fun k hk _ _ _ => h.block k hk⟩
theorem BagFrame.own {w w' : World} {r base : Nat} {e : TypeId} {size n : Nat} {v : Value} {xs : List Value} (h : BagFrame w w' r) (ho : w.ownsRow base e size v n xs) (he : e ≠ 82) (he' : e ≠ 83) (hr : ∀ c t f, w.heap[r]? ≠ some (.cells c t f)) : w'.ownsRow base e size v n xs := by
  refine ⟨ho.1, ?_⟩
  rcases ho.2 with h0 | ⟨g, cap, cur, rfl, h2, h3, h4⟩
  · exact .inl h0
  · refine .inr ⟨g, cap, cur, rfl, h2, ?_, h4⟩
    rw [h.same g (Array.getElem?_eq_some_iff.1 h3).1 (fun e => hr _ _ _ (e ▸ h3)) (fun c f h => he (by rw [h3] at h; injection h with h; injection h with _ h)) (fun c f h => he' (by rw [h3] at h; injection h with h; injection h with _ h))]
    exact h3

structure BagRep (w : World) (base b r n : Nat) (sets : List (List Int)) (vs : Value) (rows : List Value) : Prop where
  blk : w.heap[b]? = some (.cells #[.int .i64 n, vs, .map (some r)] 82 (0, 0))
  lb : base ≤ b
  lr : base ≤ r
  own : w.ownsRow base 83 1 vs sets.length rows
  elt : ∀ (i : Nat) (ws : List Int), sets[i]? = some ws → ∃ v, rows[i]? = some v ∧ w.ownsRow base 88 1 v ((n + 63) / 64) (ws.map (Value.int .u64))
  map : MapSI w r sets.length (bagFind sets)
  rng : ∀ ws ∈ sets, ∀ y ∈ ws, 0 ≤ y ∧ y < 18446744073709551616
  len : sets.length ≤ 4096
  nle : n ≤ 8192

def BagAt (w : World) (base b r n : Nat) (sets : List (List Int)) : Prop := ∃ vs rows, BagRep w base b r n sets vs rows

theorem BagRep.below {w w' : World} {base b r n : Nat} {sets : List (List Int)} {vs : Value} {rows : List Value} (h : BagRep w base b r n sets vs rows) (hb : Below w.heap.size w w') : BagRep w' base b r n sets vs rows where
  blk := by rw [hb.block b (Array.getElem?_eq_some_iff.1 h.blk).1]; exact h.blk
  lb := h.lb
  lr := h.lr
  own := own_below h.own hb (Nat.le_refl _)
  elt i ws hi := by
    obtain ⟨v, h1, h2⟩ := h.elt i ws hi
    exact ⟨v, h1, own_below h2 hb (Nat.le_refl _)⟩
  map := h.map.of_heap (hb.block r h.map.lt)
  rng := h.rng
  len := h.len
  nle := h.nle

theorem BagAt.below {w w' : World} {base b r n : Nat} {sets : List (List Int)} (h : BagAt w base b r n sets) (hb : Below w.heap.size w w') : BagAt w' base b r n sets := by
  obtain ⟨vs, rows, h⟩ := h
  exact ⟨vs, rows, h.below hb⟩

def PutPost (S : Nat → Addr) (base b r n : Nat) (sets : List (List Int)) (ws : List Int) (w : World) (e : Ending) (w' : World) : Prop :=
  Below base w w' ∧ BagFrame w w' r ∧ match bagFind sets (keyB ws) with
  | some id => e = .returned (.tuple #[.int .i64 id, .bool false, .nilIface]) ∧ BagAt w' base b r n sets
  | none => if sets.length = 4096 then ∃ v, e = .returned (.tuple #[.int .i64 0, .bool false, v]) ∧ Chain S w' v (rootIx 4) [(opBag, 0)] ∧ BagAt w' base b r n sets
      else e = .returned (.tuple #[.int .i64 (sets.length : Int), .bool true, .nilIface]) ∧ BagAt w' base b r n (sets ++ [ws])

theorem put_rep {w w1 w2 w3 : World} {base b r n : Nat} {sets : List (List Int)} {ws : List Int} {vs v v3 : Value} {rows : List Value} (hrep : BagRep w base b r n sets vs rows) (hb1 : Below w.heap.size w w1)
    (hM2 : MapSI w2 r (sets.length + 1) fun t => if t = keyB ws then some (sets.length : Int) else bagFind sets t) (hg2 : w1.grownBy w2 (some r)) (hs2 : w2.heap.size = w1.heap.size)
    (hg3 : w2.grownBy w3 vs.ownBlock) (b3 : Below base w w3) (o3 : w3.ownsRow base 83 1 v3 (sets.length + 1) (rows ++ [v])) (hf : bagFind sets (keyB ws) = none) (hlt : sets.length < 4096)
    (hv : w.ownsRow base 88 1 v ((n + 63) / 64) (ws.map (Value.int .u64))) (hw : ∀ y ∈ ws, 0 ≤ y ∧ y < 18446744073709551616) (hrne : ∀ c t f, w1.heap[r]? ≠ some (.cells c t f)) :
    Below base w (w3.setCell ⟨b, 1, none⟩ v3) ∧ BagFrame w (w3.setCell ⟨b, 1, none⟩ v3) r ∧ BagAt (w3.setCell ⟨b, 1, none⟩ v3) base b r n (sets ++ [ws]) := by
  have hrep1 := hrep.below hb1
  have hbr : b ≠ r := fun e => hrne _ _ _ (e ▸ hrep1.blk)
  have hbl1 := (Array.getElem?_eq_some_iff.1 hrep1.blk).1
  have blk2 := (hg2.block b hbl1 (by simpa using hbr)).trans hrep1.blk
  have own2 := hrep1.own.kept hg2 (.inr (Ne.symm (own_not_map hrep1.own hrne)))
  have hbl2 := (Array.getElem?_eq_some_iff.1 blk2).1
  have blk3 := (hg3.block b hbl2 (own_not_block own2 blk2 (by decide))).trans blk2
  have hne3 : ∀ g, v3.ownBlock = some g → g ≠ b := fun g hg e => own_not_block o3 blk3 (by decide) (by rw [hg, e])
  -- a row of words stays
  have keep : ∀ {u : Value} {k : Nat} {xs : List Value}, w.ownsRow base 88 1 u k xs → (w3.setCell ⟨b, 1, none⟩ v3).ownsRow base 88 1 u k xs := fun {u k xs} ho => by
    have ho1 := own_below ho hb1 (Nat.le_refl _)
    have ho2 := ho1.kept hg2 (.inr (Ne.symm (own_not_map ho1 hrne)))
    have ho3 := ho2.kept hg3 (own_type_ne ho2 own2 (by decide))
    exact own_other ho3 ⟨b, 1, none⟩ v3 (fun g hg e => own_not_block ho3 blk3 (by decide) (by rw [hg]; exact congrArg some e.symm))
  refine ⟨Below.setCell b3 (show base ≤ b from hrep.lb) _, ⟨?_, ?_, ?_, ?_, ?_⟩, v3, rows ++ [v], ?_⟩
  · exact b3.os
  · exact b3.tape
  · exact b3.output
  · have := b3.size; simpa [World.setCell] using this
  · intro k hk hkr h1 h2
    have hkb : k ≠ b := fun e => h1 _ _ (e ▸ hrep.blk)
    rw [Below.heap_setCell _ _ _ _ (show k ≠ b from hkb)]
    have e1 := hb1.block k hk
    have e2 := (hg2.block k (Nat.lt_of_lt_of_le hk hb1.size) (by simpa using hkr)).trans e1
    refine (hg3.block k (by have := hb1.size; omega) ?_).trans e2
    intro e
    rcases own2.2 with ⟨rfl, _⟩ | ⟨g, cap, cur, rfl, _, hh, _⟩
    · simp [Value.ownBlock] at e
    · have : k = g := by simpa [Value.ownBlock] using e
      subst this
      rw [e2] at hh
      exact h2 _ _ hh
  · refine ⟨?_, hrep.lb, hrep.lr, ?_, ?_, ?_, ?_, by simp; omega, hrep.nle⟩
    · have := heap_setCell_same w3 b 1 _ _ v3 blk3
      simpa using this
    · rw [List.length_append, List.length_singleton]
      exact own_other o3 ⟨b, 1, none⟩ v3 hne3
    · intro i ws' hi
      have hrl : rows.length = sets.length := by have := hrep.own.1; omega
      rw [List.getElem?_append] at hi
      split at hi
      · rename_i hlt'
        obtain ⟨u, h1, h2⟩ := hrep.elt i ws' hi
        exact ⟨u, by rw [List.getElem?_append_left (by omega)]; exact h1, keep h2⟩
      · rename_i hge
        obtain ⟨hi0, rfl⟩ : i - sets.length = 0 ∧ ws = ws' := by
          have := (List.getElem?_eq_some_iff.1 hi).1
          simp at this
          have e0 : i - sets.length = 0 := by omega
          rw [e0] at hi
          exact ⟨e0, by simpa using hi⟩
        exact ⟨v, by rw [List.getElem?_append_right (by omega), hrl, hi0]; rfl, keep hv⟩
    · rw [List.length_append, List.length_singleton]
      have hfun : (fun t => if t = keyB ws then some (sets.length : Int) else bagFind sets t) = bagFind (sets ++ [ws]) := funext fun t => (bagFind_snoc sets ws hf t).symm
      rw [hfun] at hM2
      refine hM2.of_heap ?_
      rw [Below.heap_setCell _ _ _ _ (show r ≠ b from Ne.symm hbr)]
      refine hg3.block r hM2.lt ?_
      have hr2 : ∀ c t f, w2.heap[r]? ≠ some (.cells c t f) := fun c t f h => by
        obtain ⟨D, ⟨es, clock, h1, _⟩, _⟩ := hM2
        rw [h1] at h; cases h
      exact own_not_map own2 hr2
    · intro ws' hw'
      rcases List.mem_append.1 hw' with h | h
      · exact hrep.rng ws' h
      · rw [List.mem_singleton.1 h]; exact hw

set_option maxRecDepth 100000 in
theorem put_calls (B : Nat) (S : Nat → Addr) (w : World) (hE : Env B S w) (base b r n : Nat) (sets : List (List Int)) (ws : List Int) (v : Value)
    (hbag : BagAt w base b r n sets) (hv : w.ownsRow base 88 1 v ((n + 63) / 64) (ws.map (Value.int .u64))) (hw : ∀ y ∈ ws, 0 ≤ y ∧ y < 18446744073709551616) :
    Calls Tryd.prog 42 #[.pointer (some ⟨b, 0, none⟩), v] w (PutPost S base b r n sets ws w) := by
  obtain ⟨vs, rows, hrep⟩ := hbag
  have hn := hrep.nle
  obtain ⟨A, c, rfl, hc, hm, hr⟩ := own_ri hv
  have hl : ws.length ≤ 128 := by omega
  have hbl := (Array.getElem?_eq_some_iff.1 hrep.blk).1
  have hbase : base ≤ w.heap.size := Nat.le_trans hrep.lb (Nat.le_of_lt hbl)
  have HE := hid hE
  have HMM := hid hm
  clear hm
  have HR := hid hr
  have HW := hid hw
  have HV := hid hv
  have HREP := hid hrep
  clear hE hr hw hv hrep
  have hks : (strOfNums (keyOf ws)).size ≤ maxLen := by rw [strOfNums_size, keyOf_length]; simp only [maxLen]; omega
  have hlen := HREP.out.len
  cases hf : bagFind sets (keyB ws) with
  | some id =>
    have HF := hid hf
    clear hf
    go_enter Tryd.func42, Tryd.ntmps42
    go_wp2_with fail
    refine (key_calls w A c ws HR.out HW.out hl).mono ?_
    rintro e w1 ⟨rfl, hb1⟩
    have hrep1 := HREP.out.below hb1
    obtain ⟨k0, k1, k2⟩ := cells3 hrep1.blk
    have hlk := hrep1.map.lookup (strOfNums (keyOf ws)) hks
    have hf := HF.out
    unfold keyB at hf
    rw [hf] at hlk
    simp only [Option.getD_some, Option.isSome_some] at hlk
    have HB1 := hid hb1
    clear hf hb1 hrep1
    go_wp2_with fail
    go_ret3
    refine ⟨HB1.out.mono hbase, BagFrame.of_below r HB1.out, ?_⟩
    rw [HF.out]
    exact ⟨rfl, _, _, HREP.out.below HB1.out⟩
  | none =>
    have HF := hid hf
    clear hf
    obtain ⟨A', c', hvs, hc', hm'⟩ := own_slice HREP.out.own
    by_cases hfull : sets.length = 4096
    · have HFULL := hid hfull
      have hf1 : ((sets.length : Int) == 4096) = true := by rw [hfull]; rfl
      clear hfull
      subst hvs
      go_enter Tryd.func42, Tryd.ntmps42
      go_wp2_with fail
      refine (key_calls w A c ws HR.out HW.out hl).mono ?_
      rintro e w1 ⟨rfl, hb1⟩
      have hrep1 := HREP.out.below hb1
      obtain ⟨k0, k1, k2⟩ := cells3 hrep1.blk
      have hlk := hrep1.map.lookup (strOfNums (keyOf ws)) hks
      have hf := HF.out
      unfold keyB at hf
      rw [hf] at hlk
      simp only [Option.getD_none, Option.isSome_none] at hlk
      have HB1 := hid hb1
      clear hf hb1 hrep1
      go_wp2_with (go_at_call 40; refine (bagWrong_calls B S _ (HE.out.below' HB1.out) _ 4 (by decide)).mono ?_; rintro e w2 ⟨u, rfl, hch, hb2⟩)
      go_ret3
      have hb := below_then HB1.out hb2 HB1.out.size
      refine ⟨hb.mono hbase, BagFrame.of_below r hb, ?_⟩
      rw [HF.out]
      show if sets.length = 4096 then _ else _
      rw [if_pos HFULL.out]
      exact ⟨_, rfl, hch, _, _, HREP.out.below hb⟩
    · have hf1 : ((sets.length : Int) == 4096) = false := by simp; omega
      have hlt : sets.length < 4096 := by omega
      have HFULL := hid hfull
      clear hfull
      subst hvs
      go_enter Tryd.func42, Tryd.ntmps42
      go_wp2_with fail
      refine (key_calls w A c ws HR.out HW.out hl).mono ?_
      rintro e w1 ⟨rfl, hb1⟩
      have hrep1 := HREP.out.below hb1
      obtain ⟨k0, k1, k2⟩ := cells3 hrep1.blk
      have hlk := hrep1.map.lookup (strOfNums (keyOf ws)) hks
      have hf := HF.out
      unfold keyB at hf
      rw [hf] at hlk
      simp only [Option.getD_none, Option.isSome_none] at hlk
      obtain ⟨w2, hst, hM2, hg2, hs2⟩ := hrep1.map.store (by simp only [maxLen]; omega) (strOfNums (keyOf ws)) hks (sets.length : Int) ⟨by omega, by omega⟩
      have hrne : ∀ c t f, w1.heap[r]? ≠ some (.cells c t f) := fun c t f h => by
        obtain ⟨D, ⟨es, clock, h1, _⟩, _⟩ := hrep1.map
        rw [h1] at h; cases h
      have HB1 := hid hb1
      have HRN := hid hrne
      have HM2 := hid hM2
      have HG2 := hid hg2
      have HS2 := hid hs2
      have hbr : b ≠ r := fun e => hrne _ _ _ (e ▸ hrep1.blk)
      have blk2 := (hg2.block b (Array.getElem?_eq_some_iff.1 hrep1.blk).1 (by simpa using hbr)).trans hrep1.blk
      obtain ⟨j0, j1, j2⟩ := cells3 blk2
      have HBLK2 := hid blk2
      have own2 := hrep1.own.kept hg2 (.inr (Ne.symm (own_not_map hrep1.own hrne)))
      have HO2 := hid own2
      have hs2' : base ≤ w2.heap.size := by have := HB1.out.size; omega
      have B2 : Hid (Below base w w2) := (HB1.out.mono hbase).grown hg2 (Nat.le_trans hbase HB1.out.size) (fun k hk => by obtain rfl := Option.some.inj hk; exact HREP.out.lr)
      have HREP1 := hid hrep1
      have hapl : (sets.length + 1) * 24 ≤ 140737488355328 := by omega
      clear hf hb1 hrne hM2 hg2 hs2 blk2 hrep1 own2
      go_wp2_with (at_builtin; refine append1 (w0 := w) base (by rfl) (.tmp 46) (.tmp 48) 80 83 (.slice none 0 0) 24 (by rfl) Tryd.underlying80 Tryd.infoU64s (by rfl) (by decide) _ _ _ _ (by rfl) (by rfl) (by rfl) HO2.out B2.out hs2' hapl ?_; intro v3 w3 o3 b3 g3 _; obtain ⟨A3, c3, hv3, hc3, hm3⟩ := own_slice o3; subst hv3; have blk3 := (g3.block b (Array.getElem?_eq_some_iff.1 HBLK2.out).1 (own_not_block HO2.out HBLK2.out (by decide))).trans HBLK2.out; have i1 := (cells3 blk3).2.1; have f1 : w3.frozen? ⟨b, 1, none⟩ = false := by simp [World.frozen?, blk3])
      go_ret3
      obtain ⟨c1, c2, c3⟩ := put_rep HREP.out HB1.out HM2.out HG2.out HS2.out g3 b3 o3 HF.out hlt HV.out HW.out HRN.out
      refine ⟨c1, c2, ?_⟩
      rw [HF.out]
      show if sets.length = 4096 then _ else _
      rw [if_neg HFULL.out]
      exact ⟨rfl, c3⟩
end Go.Proofs.YtapebbejdgeijaaDoor
