/- A region that draws its order, walked in the order of the text: quiet operations between barriers (operations that all others wait for, or that wait for all others). -/
import Derived.Deep.Quiet
import Derived.Deep.QuietTactic
namespace Go.Proofs.YtapebbejdgeijaaDoor
open Go

section
variable {P : Program} {ops : Array Oper} {Q : Exit → Act → World → Prop} {md : Region.Mode} {bs : List Nat}

def waits (md : Region.Mode) (ops : Array Oper) : Nat → Nat → Nat → Bool
  | 0, _, _ => false
  | f + 1, b, i => match ops[b]? with
    | none => false
    | some o => o.after.any fun e => Region.binds md e && (e.on == i || waits md ops f e.on i)

def Closed (md : Region.Mode) (ops : Array Oper) (listed : Array Bool) : Prop :=
  ∀ x o, ops[x]? = some o → listed.getD x false = true → ∀ e ∈ o.after, Region.binds md e = true → listed.getD e.on false = true

theorem Closed.waits {listed : Array Bool} (h : Closed md ops listed) {i : Nat} : ∀ (f x : Nat), listed.getD x false = true → waits md ops f x i = true → listed.getD i false = true
  | 0, _, _, hw => by simp [Proofs.YtapebbejdgeijaaDoor.waits] at hw
  | f + 1, x, hx, hw => by
    unfold Proofs.YtapebbejdgeijaaDoor.waits at hw
    split at hw
    · cases hw
    · rename_i o ho
      rw [Array.any_eq_true'] at hw
      obtain ⟨e, he, hb⟩ := hw
      simp only [Bool.and_eq_true, Bool.or_eq_true, beq_iff_eq] at hb
      have h1 := h x o ho hx e he hb.1
      rcases hb.2 with rfl | hb2
      · exact h1
      · exact h.waits f e.on h1 hb2

theorem Closed.not_ready {listed : Array Bool} (h : Closed md ops listed) {i b f : Nat} (hi : listed.getD i false = false) (hw : Proofs.YtapebbejdgeijaaDoor.waits md ops f b i = true) : b ∉ Region.ready md ops listed := by
  intro hb
  obtain ⟨_, o, ho, hall⟩ := mem_ready.1 hb
  cases f with
  | zero => simp [Proofs.YtapebbejdgeijaaDoor.waits] at hw
  | succ f =>
    unfold Proofs.YtapebbejdgeijaaDoor.waits at hw
    simp only [ho] at hw
    rw [Array.any_eq_true'] at hw
    obtain ⟨e, he, hb⟩ := hw
    simp only [Bool.and_eq_true, Bool.or_eq_true, beq_iff_eq] at hb
    have h1 := hall e he hb.1
    rcases hb.2 with rfl | hb2
    · rw [hi] at h1; cases h1
    · have := h.waits f e.on h1 hb2
      rw [hi] at this; cases this

theorem Closed.set {listed : Array Bool} (h : Closed md ops listed) {j : Nat} (hj : j ∈ Region.ready md ops listed) : Closed md ops (listed.setIfInBounds j true) := by
  intro x o ho hx e he hb
  by_cases hxj : j = x
  · subst hxj
    obtain ⟨_, o', ho', hall⟩ := mem_ready.1 hj
    obtain rfl : o' = o := Option.some.inj (ho'.symm.trans ho)
    exact getD_set_true (hall e he hb)
  · rw [getD_set_ne false hxj] at hx
    exact getD_set_true (h x o ho hx e he hb)

def wpAnyF (P : Program) (md : Region.Mode) (ops : Array Oper) (bs : List Nat) (Q : Exit → Act → World → Prop) : Nat → Array Bool → Act → (World → Prop) → Prop
  | 0, listed, a, C => Region.ready md ops listed = [] ∧ ∀ w, C w → Q .normal a w
  | fuel + 1, listed, a, C =>
    (Region.ready md ops listed = [] → ∀ w, C w → Q .normal a w) ∧
    ∀ i ∈ Region.ready md ops listed, if bs.contains i = true then ∀ w, C w → wpOp P ops Q i (fun a' w' => ∃ C', C' w' ∧ wpAnyF P md ops bs Q fuel (listed.setIfInBounds i true) a' C') a w
      else qOp P ops C i (fun a' => wpAnyF P md ops bs Q fuel (listed.setIfInBounds i true) a' C) a

theorem wpAny_of_F : ∀ (fuel : Nat) (listed : Array Bool) (a : Act) (C : World → Prop) (w : World), C w → wpAnyF P md ops bs Q fuel listed a C → wpAny P md ops Q fuel listed a w
  | 0, _, _, _, _, hw, h => ⟨h.1, h.2 _ hw⟩
  | fuel + 1, listed, a, C, w, hw, h => by
    refine ⟨fun h0 => h.1 h0 _ hw, fun i hi => ?_⟩
    have h1 := h.2 i hi
    split at h1
    · exact wpOp_mono (fun a' w' ⟨C', hC', h'⟩ => wpAny_of_F fuel _ a' C' w' hC' h') (h1 w hw)
    · exact wpOp_of_qOp hw (fun a' w' hw' h' => wpAny_of_F fuel _ a' C w' hw' h') h1

theorem wpAnyF_first {C : World → Prop} {i : Nat} {oi : Oper} {v : Value} (hi : ops[i]? = some oi) (hib : bs.contains i = false) (hsel : ∀ (j : Nat) (o : Oper) cs b, ops[j]? = some o → o.op ≠ .select cs b) (F : Nat) :
    ∀ (fuel : Nat) (listed : Array Bool) (a : Act), Closed md ops listed →
      (∀ j oj, ops[j]? = some oj → j ≠ i → listed.getD j true = false → (∀ e ∈ oj.after, Region.binds md e = true → e.on ≠ i) → oi.apart ops oj = true) →
      (∀ b, bs.contains b = true → listed.getD b true = false → waits md ops F b i = true) →
      i ∈ Region.ready md ops listed → YieldsIn P ops C oi v a →
      wpAnyF P md ops bs Q fuel (listed.setIfInBounds i true) (a.put oi.dst v) C → wpAnyF P md ops bs Q (fuel + 1) listed a C := by
  intro fuel
  induction fuel with
  | zero =>
    intro listed a _ _ _ hr hy H
    refine ⟨fun h => (by rw [h] at hr; cases hr), fun j hj => ?_⟩
    by_cases hji : j = i
    · subst hji
      rw [if_neg (by rw [hib]; decide)]
      exact hy.qOp hi H
    · have := ready_mono hj hji
      rw [H.1] at this
      cases this
  | succ fuel ih =>
    intro listed a hcl hfree hbar hr hy H
    refine ⟨fun h => (by rw [h] at hr; cases hr), fun j hj => ?_⟩
    by_cases hji : j = i
    · subst hji
      rw [if_neg (by rw [hib]; decide)]
      exact hy.qOp hi H
    · have h1 := H.2 j (ready_mono hj hji)
      obtain ⟨hjun, oj, hoj, hall⟩ := mem_ready.1 hj
      have hiun : listed.getD i false = false := by
        have h0 := (mem_ready.1 hr).1
        rcases Nat.lt_or_ge i listed.size with h' | h'
        · simp [h'] at h0 ⊢; exact h0
        · simp [Array.getElem?_eq_none h'] at h0
      have hjb : bs.contains j = false := by
        cases hb : bs.contains j with
        | false => rfl
        | true => exact absurd hj (hcl.not_ready hiun (hbar j hb hjun))
      rw [if_neg (by rw [hjb]; decide)] at h1 ⊢
      have hnot : ∀ e ∈ oj.after, Region.binds md e = true → e.on ≠ i := fun e he hb heq => by
        have h1 := hall e he hb
        rw [heq, hiun] at h1
        cases h1
      have h2 := qOp_put hoj (hfree j oj hoj hji hjun hnot) (fun cs b => hsel i oi cs b hi) (fun cs b => hsel j oj cs b hoj) hy h1
      have hfree' : ∀ k ok, ops[k]? = some ok → k ≠ i → (listed.setIfInBounds j true).getD k true = false →
          (∀ e ∈ ok.after, Region.binds md e = true → e.on ≠ i) → oi.apart ops ok = true := fun k ok hk hki hun hno => by
        refine hfree k ok hk hki ?_ hno
        by_cases hjk : j = k
        · subst hjk; exact hjun
        · rw [getD_set_ne true hjk] at hun; exact hun
      have hbar' : ∀ b, bs.contains b = true → (listed.setIfInBounds j true).getD b true = false → waits md ops F b i = true := fun b hb hun => by
        refine hbar b hb ?_
        by_cases hjk : j = b
        · subst hjk; exact hjun
        · rw [getD_set_ne true hjk] at hun; exact hun
      refine qOp_mono (fun a' h3 => ih (listed.setIfInBounds j true) a' (hcl.set hj) hfree' hbar' (ready_mono hr (Ne.symm hji)) h3.1 ?_) h2
      rw [Array.setIfInBounds_comm _ _ hji]
      exact h3.2

/-- The walk in the order of the text. -/
def wpSeg (P : Program) (ops : Array Oper) (bs : List Nat) (Q : Exit → Act → World → Prop) : List Oper → Nat → Act → (World → Prop) → Prop
  | [], _, a, C => ∀ w, C w → Q .normal a w
  | o :: rest, k, a, C =>
    if bs.contains k = true then ∀ w, C w → (if Region.wanted o (yielded ops a.tmps) then o.wp P a w (fun a' w' => ∃ C', C' w' ∧ wpSeg P ops bs Q rest (k + 1) a' C') Q else ∃ C', C' w ∧ wpSeg P ops bs Q rest (k + 1) (a.put o.dst undef) C')
    else if Region.wanted o (yielded ops a.tmps) then o.quiet P a C (fun a' => wpSeg P ops bs Q rest (k + 1) a' C) else wpSeg P ops bs Q rest (k + 1) (a.put o.dst undef) C

def segFrom (md : Region.Mode) (ops : Array Oper) (bs : List Nat) : Nat → Nat → Array Bool → Bool
  | 0, _, listed => (Region.ready md ops listed).isEmpty
  | fuel + 1, k, listed =>
    (if bs.contains k then Region.ready md ops listed == [k]
     else (Region.ready md ops listed).contains k && Region.free md ops listed k && bs.all fun b => listed.getD b true || waits md ops ops.size b k) && segFrom md ops bs fuel (k + 1) (listed.setIfInBounds k true)

def segB (md : Region.Mode) (ops : Array Oper) (bs : List Nat) : Bool := Region.noSelect ops && segFrom md ops bs ops.size 0 (Array.replicate ops.size false)

theorem wpAnyF_lex (hs : Region.noSelect ops = true) : ∀ (l : List Oper) (k : Nat) (listed : Array Bool) (a : Act) (C : World → Prop), (∀ j, l[j]? = ops[k + j]?) → Closed md ops listed →
    segFrom md ops bs l.length k listed = true → wpSeg P ops bs Q l k a C → wpAnyF P md ops bs Q l.length listed a C
  | [], _, _, _, _, _, _, hB, h => ⟨by simpa [segFrom] using hB, h⟩
  | o :: l, k, listed, a, C, hl, hcl, hB, h => by
    have h0 : ops[k]? = some o := by simpa using (hl 0).symm
    simp only [List.length_cons, segFrom, Bool.and_eq_true] at hB
    obtain ⟨hB1, hB'⟩ := hB
    have hl' : ∀ j, l[j]? = ops[k + 1 + j]? := fun j => by have := hl (j + 1); simpa [Nat.add_assoc, Nat.add_comm 1 j] using this
    unfold wpSeg at h
    by_cases hb : bs.contains k = true
    · rw [if_pos hb] at hB1 h
      have hr : Region.ready md ops listed = [k] := by simpa using hB1
      have hk : k ∈ Region.ready md ops listed := by rw [hr]; simp
      refine ⟨fun h0 => (by rw [hr] at h0; cases h0), fun i hi => ?_⟩
      rw [hr] at hi
      obtain rfl := List.mem_singleton.1 hi
      rw [if_pos hb]
      intro w hw
      have h1 := h w hw
      unfold wpOp
      simp only [h0]
      split
      · rename_i hwant
        rw [if_pos hwant] at h1
        exact .inl (Oper.wp_mono (fun a' w' ⟨C', hC', h'⟩ => ⟨C', hC', wpAnyF_lex hs l _ _ a' C' hl' (hcl.set hk) hB' h'⟩) h1)
      · rename_i hwant
        rw [if_neg hwant] at h1
        obtain ⟨C', hC', h'⟩ := h1
        exact ⟨C', hC', wpAnyF_lex hs l _ _ _ C' hl' (hcl.set hk) hB' h'⟩
    · rw [if_neg hb] at hB1 h
      simp only [Bool.and_eq_true] at hB1
      obtain ⟨⟨hr, hf⟩, hbar⟩ := hB1
      have hst : qOp P ops C k (fun a' => wpSeg P ops bs Q l (k + 1) a' C) a := by unfold qOp; simp only [h0]; exact h
      obtain ⟨v, hy, hK⟩ := yieldsIn_of_qOp h0 hst
      have hk : k ∈ Region.ready md ops listed := by simpa using hr
      refine wpAnyF_first h0 (by simpa using hb) (Region.noSelect_spec hs) ops.size l.length listed a hcl (Region.free_spec h0 hf) (fun b hb' hun => ?_) hk hy
        (wpAnyF_lex hs l (k + 1) _ _ C hl' (hcl.set hk) hB' hK)
      have := List.all_eq_true.1 hbar b (by simpa using hb')
      rw [hun] at this
      simpa using this

/-- **A drawn region in the order of its text.** -/
theorem wp_region_seg {id : Nat} {a : Act} {w : World} {l : List Oper} (bs : List Nat) (hm : P.follows .mixedOrders = true) (hB : segB .any l.toArray bs = true)
    (h : wpSeg P l.toArray bs Q l 0 a (fun w' => ∃ n, w' = w.drewN n)) : (Code.region id l.toArray true).wp P Q a w := by
  simp only [segB, Bool.and_eq_true] at hB
  refine wp_region_any hm (wpAny_of_F (bs := bs) _ _ _ (fun w' => ∃ n, w' = w.drewN n) _ ⟨1, rfl⟩ ?_)
  have := wpAnyF_lex (P := P) (Q := Q) (md := .any) (bs := bs) hB.1 l 0 (Array.replicate l.toArray.size false) a (fun w' => ∃ n, w' = w.drewN n) (by simp) (fun x o _ hx => by
    exfalso
    rw [Array.getD_eq_getD_getElem?, Array.getElem?_replicate] at hx
    split at hx <;> simp at hx) (by simpa using hB.2) h
  simpa using this

/-- A stretch of quiet operations. -/
theorem wpSeg_quiet {ops : Array Oper} {C : World → Prop} (rest : List Oper) : ∀ (seg : List Oper) (k : Nat) (a : Act), ((List.range seg.length).all fun j => !bs.contains (k + j)) = true →
    wpQuiet P ops C (fun a' => wpSeg P ops bs Q rest (k + seg.length) a' C) seg a → wpSeg P ops bs Q (seg ++ rest) k a C
  | [], k, a, _, h => by simpa [wpQuiet] using h
  | o :: seg, k, a, hB, h => by
    have hb : bs.contains k = false := by
      have := List.all_eq_true.1 hB 0 (by simp)
      simpa using this
    have hB' : ((List.range seg.length).all fun j => !bs.contains (k + 1 + j)) = true := by
      rw [List.all_eq_true]
      intro j hj
      have := List.all_eq_true.1 hB (j + 1) (by simp at hj ⊢; omega)
      simpa [Nat.add_assoc, Nat.add_comm 1 j] using this
    unfold wpQuiet at h
    show wpSeg P ops bs Q (o :: (seg ++ rest)) k a C
    unfold wpSeg
    rw [if_neg (by rw [hb]; decide)]
    have e : k + (o :: seg).length = k + 1 + seg.length := by simp; omega
    rw [e] at h
    split
    · rename_i hw
      rw [if_pos hw] at h
      exact Oper.quiet_mono (fun a' h' => wpSeg_quiet rest seg (k + 1) a' hB' h') h
    · rename_i hw
      rw [if_neg hw] at h
      exact wpSeg_quiet rest seg (k + 1) _ hB' h

/-- A barrier: an operation that is wanted. -/
theorem wpSeg_bar {ops : Array Oper} {C : World → Prop} {o : Oper} {rest : List Oper} {k : Nat} {a : Act} (hb : bs.contains k = true) (hw : Region.wanted o (yielded ops a.tmps) = true)
    (h : ∀ w, C w → ∀ K : Act → World → Prop, (∀ a' w', wpSeg P ops bs Q rest (k + 1) a' (fun w'' => ∃ n, w'' = w'.drewN n) → K a' w') → o.wp P a w K Q) : wpSeg P ops bs Q (o :: rest) k a C := by
  unfold wpSeg
  rw [if_pos hb]
  intro w hC
  rw [if_pos hw]
  exact h w hC _ (fun a' w' h' => ⟨_, ⟨0, rfl⟩, h'⟩)

/-- Quiet to the end. -/
theorem wpSeg_rest {ops : Array Oper} {C : World → Prop} {l : List Oper} {k : Nat} {a : Act} (hb : ((List.range l.length).all fun j => !bs.contains (k + j)) = true)
    (h : wpQuiet P ops C (fun a' => ∀ w, C w → Q .normal a' w) l a) : wpSeg P ops bs Q l k a C := by
  have := wpSeg_quiet (P := P) (Q := Q) (bs := bs) (ops := ops) (C := C) [] l k a hb (by simpa [wpSeg] using h)
  simpa using this

theorem wpSeg_nil {ops : Array Oper} {C : World → Prop} {k : Nat} {a : Act} (h : ∀ w, C w → Q .normal a w) : wpSeg P ops bs Q [] k a C := h
end
end Go.Proofs.YtapebbejdgeijaaDoor
