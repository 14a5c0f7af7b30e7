/- bag: New, Put, Find, set, Len. -/
import Derived.Test.YtapebbejdgeijaaDoorBagC
import Derived.Deep.RegionHeld3
namespace Go.Proofs.YtapebbejdgeijaaDoor
open Go.RowKit Go.Extern.Stop Go.Stop Go.Extern Go.Deep

theorem bagNew_ok (w : World) (n : Nat) (hn : n ≤ 8192) :
    Calls Tryd.prog 9 #[.int .i64 n] w fun e w' => e = .returned (.tuple #[.pointer (some ⟨w.heap.size + 1, 0, none⟩), .nilIface]) ∧ BagAt w' w.heap.size (w.heap.size + 1) w.heap.size n [] ∧ Below w.heap.size w w' := by
  have hmm := @run_makeMap Tryd.prog
  go_enter Tryd.func9, Tryd.ntmps9
  go_wp2
  go_ret2
  refine ⟨rfl, ⟨.slice none 0 0, [], ?_⟩, ((Below.refl _ _).alloc (Nat.le_refl _) _).alloc (by simp) _⟩
  refine ⟨?_, by omega, by omega, World.ownsRow_nil _ _ _ _, fun i ws h => by simp at h, ?_, by simp, by simp, hn⟩
  · have := heap_alloc_new (w.alloc (.map #[] 0)) (.cells #[.int .i64 n, .slice none 0 0, .map (some w.heap.size)] 82)
    simpa using this
  · exact (MapSI.made w).of_heap (by rw [Below.heap_alloc _ _ _ (by simp)])

theorem bagNew_err (B : Nat) (S : Nat → Addr) (w : World) (hE : Env B S w) (n : Int) (hn : n < 0 ∨ 8192 < n) :
    Calls Tryd.prog 9 #[.int .i64 n] w fun e w' => ∃ v, e = .returned (.tuple #[.pointer none, v]) ∧ Chain S w' v (rootIx (if n < 0 then 3 else 4)) [(opBag, 0)] ∧ Below w.heap.size w w' := by
  have HE := hid hE
  clear hE
  rcases hn with hn | hn
  · go_enter Tryd.func9, Tryd.ntmps9
    go_wp2_with (go_at_call 40; refine (bagWrong_calls B S _ HE.out _ 3 (by decide)).mono ?_; rintro e w' ⟨v, rfl, hc, hb2⟩)
    go_ret2
    exact ⟨_, rfl, hc, hb2⟩
  · go_enter Tryd.func9, Tryd.ntmps9
    go_wp2_with (go_at_call 40; refine (bagWrong_calls B S _ HE.out _ 4 (by decide)).mono ?_; rintro e w' ⟨v, rfl, hc, hb2⟩)
    go_ret2
    exact ⟨_, rfl, hc, hb2⟩

/-! ### the words of a set -/
theorem setBit_length (ws : List Int) (x : Int) : (setBit ws x).length = ws.length := by simp [setBit]
theorem bitsOf_length (n : Nat) (xs : List Int) : (bitsOf n xs).length = (n + 63) / 64 := by
  unfold bitsOf
  have : ∀ (xs : List Int) (ws : List Int), (xs.foldl setBit ws).length = ws.length := fun xs => by
    induction xs with
    | nil => intro ws; rfl
    | cons x xs ih => intro ws; rw [List.foldl_cons, ih, setBit_length]
  rw [this]; simp
theorem bits_u64_range (op : BinOp) (a b : Int) : 0 ≤ bits op .u64 a b ∧ bits op .u64 a b < 18446744073709551616 := by
  have h : ∀ m : Int, 0 ≤ IntKind.u64.wrap m ∧ IntKind.u64.wrap m < 18446744073709551616 := fun m => by
    rw [IntKind.wrap_u64]; omega
  unfold bits
  exact h _
theorem setBit_range (ws : List Int) (x : Int) (h : ∀ y ∈ ws, 0 ≤ y ∧ y < 18446744073709551616) : ∀ y ∈ setBit ws x, 0 ≤ y ∧ y < 18446744073709551616 := by
  intro y hy
  unfold setBit at hy
  rcases List.mem_or_eq_of_mem_set hy with h1 | rfl
  · exact h y h1
  · exact bits_u64_range _ _ _
theorem bitsOf_range (n : Nat) (xs : List Int) : ∀ y ∈ bitsOf n xs, 0 ≤ y ∧ y < 18446744073709551616 := by
  unfold bitsOf
  have : ∀ (xs : List Int) (ws : List Int), (∀ y ∈ ws, 0 ≤ y ∧ y < 18446744073709551616) → ∀ y ∈ xs.foldl setBit ws, 0 ≤ y ∧ y < 18446744073709551616 := fun xs => by
    induction xs with
    | nil => intro ws h; exact h
    | cons x xs ih => intro ws h; exact ih _ (setBit_range ws x h)
  refine this xs _ (fun y hy => ?_)
  rw [List.mem_replicate] at hy
  omega

theorem BagFrame.after_below {w w1 w2 : World} {r : Nat} (hb : Below w.heap.size w w1) (h : BagFrame w1 w2 r) : BagFrame w w2 r where
  os := h.os.trans hb.os
  tape := h.tape.trans hb.tape
  output := h.output.trans hb.output
  size := Nat.le_trans hb.size h.size
  same k hk hr h1 h2 := by
    have e := hb.block k hk
    rw [h.same k (Nat.lt_of_lt_of_le hk hb.size) hr (by rw [e]; exact h1) (by rw [e]; exact h2), e]

theorem PutPost.after {S : Nat → Addr} {base b r n : Nat} {sets : List (List Int)} {ws : List Int} {w w1 w2 : World} {e : Ending} (hb : Below w.heap.size w w1) (hbase : base ≤ w.heap.size) (h : PutPost S base b r n sets ws w1 e w2) : PutPost S base b r n sets ws w e w2 :=
  ⟨(hb.mono hbase).trans h.1, h.2.1.after_below hb, h.2.2⟩

theorem PutPost.ret {S : Nat → Addr} {base b r n : Nat} {sets : List (List Int)} {ws : List Int} {w w2 : World} {e : Ending} (h : PutPost S base b r n sets ws w e w2) : ∃ k f v, e = .returned (.tuple #[.int .i64 k, .bool f, v]) := by
  obtain ⟨_, _, h⟩ := h
  split at h
  · exact ⟨_, _, _, h.1⟩
  · split at h
    · obtain ⟨v, h, _⟩ := h; exact ⟨_, _, _, h⟩
    · exact ⟨_, _, _, h.1⟩

def PutsPost (S : Nat → Addr) (base b r n : Nat) (sets : List (List Int)) (xs : List Int) (w : World) (e : Ending) (w' : World) : Prop :=
  match firstBad n xs with
  | some i => ∃ v, e = .returned (.tuple #[.int .i64 0, .bool false, v]) ∧ Chain S w' v (rootIx 3) [(opBag, (i : Int))] ∧ BagAt w' base b r n sets ∧ Below w.heap.size w w'
  | none => PutPost S base b r n sets (bitsOf n xs) w e w'

theorem BagAt.facts {w : World} {base b r n : Nat} {sets : List (List Int)} (h : BagAt w base b r n sets) : base ≤ w.heap.size ∧ b < w.heap.size ∧ n ≤ 8192 ∧ w.cell? ⟨b, 0, none⟩ = some (.int .i64 n) := by
  obtain ⟨vs, rows, h⟩ := h
  have hbl := (Array.getElem?_eq_some_iff.1 h.blk).1
  exact ⟨Nat.le_trans h.lb (Nat.le_of_lt hbl), hbl, h.nle, (cells3 h.blk).1⟩

set_option maxRecDepth 100000 in
theorem Put_calls (B : Nat) (S : Nat → Addr) (w : World) (hE : Env B S w) (base b r n : Nat) (sets : List (List Int)) (A : Option Addr) (c : Nat) (xs : List Int)
    (hbag : BagAt w base b r n sets) (hr : RI w .i64 A xs) :
    Calls Tryd.prog 10 #[.pointer (some ⟨b, 0, none⟩), .slice A xs.length c] w (PutsPost S base b r n sets xs w) := by
  obtain ⟨hbase, hbl, hn, hc0⟩ := hbag.facts
  have HE := hid hE
  have HR := hid hr
  have HBAG := hid hbag
  clear hE hr hbag
  go_enter Tryd.func10, Tryd.ntmps10
  go_wp2_with fail
  refine (bits_calls B S _ HE.out b n A c xs hn HR.out hc0).mono ?_
  rintro e w1 ⟨hb1, hpost⟩
  cases hf : firstBad n xs with
  | some i =>
    rw [hf] at hpost
    obtain ⟨v, rfl, hch⟩ := hpost
    obtain ⟨t, ad, rfl⟩ := hch.form
    have HB1 := hid hb1
    have HCH := hid hch
    have HF := hid hf
    clear hb1 hch hf
    go_wp2_with fail
    go_ret3
    show PutsPost S base b r n sets xs w _ _
    unfold PutsPost
    rw [HF.out]
    exact ⟨_, rfl, HCH.out, HBAG.out.below HB1.out, HB1.out⟩
  | none =>
    rw [hf] at hpost
    obtain ⟨v, rfl, hown⟩ := hpost
    obtain ⟨A1, c1, hv, _, _⟩ := own_slice hown
    subst hv
    have HB1 := hid hb1
    have HO := hid hown
    have HF := hid hf
    clear hb1 hown hf
    go_wp2_with fail
    refine (put_calls B S _ (HE.out.below' HB1.out) base b r n sets (bitsOf n xs) _ (HBAG.out.below HB1.out) (own_base HO.out (by have := HB1.out.size; omega)) (bitsOf_range n xs)).mono ?_
    rintro e w2 hp
    obtain ⟨k, f, v, rfl⟩ := hp.ret
    have HP := hid hp
    clear hp
    go_wp2_with fail
    go_ret3
    show PutsPost S base b r n sets xs w _ _
    unfold PutsPost
    rw [HF.out]
    exact HP.out.after HB1.out hbase

set_option maxRecDepth 100000 in
theorem Put_nil (B : Nat) (S : Nat → Addr) (w : World) (hE : Env B S w) (u : Value) :
    Calls Tryd.prog 10 #[.pointer none, u] w fun e w' => ∃ v, e = .returned (.tuple #[.int .i64 0, .bool false, v]) ∧ Chain S w' v (rootIx 11) [(opBag, 0)] ∧ Below w.heap.size w w' := by
  have HE := hid hE
  clear hE
  go_enter Tryd.func10, Tryd.ntmps10
  go_wp2_with fail
  refine (bits_nil B S _ HE.out u).mono ?_
  rintro e w1 ⟨v, rfl, hch, hb⟩
  obtain ⟨t, ad, rfl⟩ := hch.form
  have HCH := hid hch
  clear hch
  go_wp2_with fail
  go_ret3
  exact ⟨_, rfl, HCH.out, hb⟩

theorem bagLen_calls (w : World) (base b r n : Nat) (sets : List (List Int)) (hbag : BagAt w base b r n sets) :
    Calls Tryd.prog 16 #[.pointer (some ⟨b, 0, none⟩)] w fun e w' => e = .returned (.int .i64 (sets.length : Int)) ∧ w = w' := by
  obtain ⟨vs, rows, h⟩ := hbag
  obtain ⟨A', c', rfl, hc', hm'⟩ := own_slice h.own
  have h1 := (cells3 h.blk).2.1
  clear h
  go_enter Tryd.func16, Tryd.ntmps16
  go_wp2
  go_ret
  exact ⟨rfl, rfl⟩

theorem bagLen_nil (w : World) : Calls Tryd.prog 16 #[.pointer none] w fun e w' => e = .returned (.int .i64 0) ∧ w = w' := by
  go_enter Tryd.func16, Tryd.ntmps16
  go_wp2
  go_ret
  exact ⟨rfl, rfl⟩

def FindPost (S : Nat → Addr) (n : Nat) (sets : List (List Int)) (xs : List Int) (w : World) (e : Ending) (w' : World) : Prop :=
  Below w.heap.size w w' ∧ match firstBad n xs with
  | some i => ∃ v, e = .returned (.tuple #[.int .i64 0, v]) ∧ Chain S w' v (rootIx 3) [(opBag, (i : Int))]
  | none => e = .returned (.tuple #[.int .i64 ((bagFind sets (keyB (bitsOf n xs))).getD (-1)), .nilIface])

set_option maxRecDepth 100000 in
theorem Find_calls (B : Nat) (S : Nat → Addr) (w : World) (hE : Env B S w) (base b r n : Nat) (sets : List (List Int)) (A : Option Addr) (c : Nat) (xs : List Int)
    (hbag : BagAt w base b r n sets) (hr : RI w .i64 A xs) :
    Calls Tryd.prog 13 #[.pointer (some ⟨b, 0, none⟩), .slice A xs.length c] w (FindPost S n sets xs w) := by
  obtain ⟨hbase, hbl, hn, hc0⟩ := hbag.facts
  have HE := hid hE
  have HR := hid hr
  have HBAG := hid hbag
  clear hE hr hbag
  go_enter Tryd.func13, Tryd.ntmps13
  go_wp2_with fail
  refine (bits_calls B S _ HE.out b n A c xs hn HR.out hc0).mono ?_
  rintro e w1 ⟨hb1, hpost⟩
  cases hf : firstBad n xs with
  | some i =>
    rw [hf] at hpost
    obtain ⟨v, rfl, hch⟩ := hpost
    obtain ⟨t, ad, rfl⟩ := hch.form
    have HB1 := hid hb1
    have HCH := hid hch
    have HF := hid hf
    clear hb1 hch hf
    go_wp2_with fail
    go_ret2
    refine ⟨HB1.out, ?_⟩
    rw [HF.out]
    exact ⟨_, rfl, HCH.out⟩
  | none =>
    rw [hf] at hpost
    obtain ⟨v, rfl, hown⟩ := hpost
    obtain ⟨A1, c1, hv, hc1, hm1, hri⟩ := own_ri hown
    subst hv
    have hbag1 := HBAG.out.below hb1
    obtain ⟨vs, rows, hrep⟩ := hbag1
    have k2 := (cells3 hrep.blk).2.2
    have hmap := hrep.map
    have HB1 := hid hb1
    have HO := hid hown
    have HRI := hid hri
    have HF := hid hf
    have HMP := hid hmap
    have HM1 := hid hm1
    clear hb1 hown hri hf hrep hmap hm1
    have hl : (bitsOf n xs).length ≤ 128 := by rw [bitsOf_length]; omega
    have hks : (strOfNums (keyOf (bitsOf n xs))).size ≤ maxLen := by rw [strOfNums_size, keyOf_length]; simp only [maxLen]; omega
    have hbl1 : b < w1.heap.size := World.block_lt_of_cell? w1 _ k2
    have HLK := hid (fun (w' : World) (h : Below w1.heap.size w1 w') => (HMP.out.of_heap (h.block r HMP.out.lt)).lookup (strOfNums (keyOf (bitsOf n xs))) hks)
    have HF2 : Hid (bagFind sets (strOfNums (keyOf (bitsOf n xs))).data.toList = bagFind sets (keyB (bitsOf n xs))) := rfl
    have fin : Hid (∀ (e : Ending) (w' : World), Below w1.heap.size w1 w' → e = .returned (.tuple #[.int .i64 ((bagFind sets (keyB (bitsOf n xs))).getD (-1)), .nilIface]) → FindPost S n sets xs w e w') := fun e w' h he => by
      refine ⟨below_then HB1.out h HB1.out.size, ?_⟩
      rw [HF.out]
      exact he
    cases hfi : bagFind sets (keyB (bitsOf n xs)) with
    | none =>
      rw [hfi] at fin
      have HFI := hid (HF2.out.trans hfi)
      clear hfi HF2
      go_wp2_with fail
      go_region_held3 (fun w' => w'.cell? ⟨b, 2, none⟩ = some (.map (some r))) (first | go_keep | assumption)
        (first | (go_at_call 44; refine (key_calls _ A1 c1 (bitsOf n xs) ?_ ?_ ?_).mono ?_; exact HRI.out; exact bitsOf_range n xs; exact hl; rintro e w2 ⟨rfl, hb2⟩; have hc2 := (hb2.cell (show b < w1.drew.heap.size from hbl1)).trans k2; have hlk := HLK.out w2 ⟨hb2.os, hb2.tape, hb2.output, hb2.size, hb2.block⟩; rw [HFI.out] at hlk; simp only [Option.getD_none, Option.isSome_none] at hlk; have HB2 := hid hb2; clear hb2))
      go_wp2
      go_ret2
      exact fin.out _ _ ⟨HB2.out.os, HB2.out.tape, HB2.out.output, HB2.out.size, HB2.out.block⟩ rfl
    | some id =>
      rw [hfi] at fin
      have HFI := hid (HF2.out.trans hfi)
      clear hfi HF2
      go_wp2_with fail
      go_region_held3 (fun w' => w'.cell? ⟨b, 2, none⟩ = some (.map (some r))) (first | go_keep | assumption)
        (first | (go_at_call 44; refine (key_calls _ A1 c1 (bitsOf n xs) ?_ ?_ ?_).mono ?_; exact HRI.out; exact bitsOf_range n xs; exact hl; rintro e w2 ⟨rfl, hb2⟩; have hc2 := (hb2.cell (show b < w1.drew.heap.size from hbl1)).trans k2; have hlk := HLK.out w2 ⟨hb2.os, hb2.tape, hb2.output, hb2.size, hb2.block⟩; rw [HFI.out] at hlk; simp only [Option.getD_some, Option.isSome_some] at hlk; have HB2 := hid hb2; clear hb2))
      go_wp2
      go_ret2
      exact fin.out _ _ ⟨HB2.out.os, HB2.out.tape, HB2.out.output, HB2.out.size, HB2.out.block⟩ rfl
end Go.Proofs.YtapebbejdgeijaaDoor
