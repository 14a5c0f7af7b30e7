/- lists of lists that grow; graph.back, edenref12.turned. -/
import Derived.Test.YtapebbejdgeijaaDoorGrD
namespace Go.Proofs.YtapebbejdgeijaaDoor
open Go.RowKit Go.Extern.Stop Go.Stop Go.Extern Go.Deep Tar

theorem Tryd.infoInts2 : (Tryd.prog.info? 22).map (fun i => (i.zero, i.size, i.bytes)) = some (some (.slice none 0 0), 1, 24) := by kernel_rfl
/-- n rows of vertices behind block go, each in memory of its own. -/
structure RowsAt (w : World) (base go n : Nat) (F : Nat → List Nat) (rv : Nat → Value) : Prop where
  blk : w.rowIs go 22 n rv
  own : ∀ t, t < n → w.ownsRow base 3 1 (rv t) (F t).length ((F t).map iV)
  dis : ∀ s t, s < n → t < n → s ≠ t → (rv s).ownBlock = none ∨ (rv s).ownBlock ≠ (rv t).ownBlock
  lt : go < base
  sz : base ≤ w.heap.size

theorem RowsAt.made {w : World} {go n base : Nat} {rv : Nat → Value} (h : w.rowIs go 22 n rv) (hrv : ∀ t, t < n → rv t = .slice none 0 0) (hb : go < base) (hs : base ≤ w.heap.size) : RowsAt w base go n (fun _ => []) rv :=
  ⟨h, fun t ht => by rw [hrv t ht]; exact World.ownsRow_nil _ _ _ _, fun s t hs' _ _ => .inl (by rw [hrv s hs']; rfl), hb, hs⟩
theorem RowsAt.below {w w' : World} {base go n : Nat} {F : Nat → List Nat} {rv : Nat → Value} (h : RowsAt w base go n F rv) (hb : Below w.heap.size w w') : RowsAt w' base go n F rv :=
  ⟨rowIs_below h.blk hb h.blk.lt, fun t ht => own_below (h.own t ht) hb (Nat.le_refl _), h.dis, h.lt, Nat.le_trans h.sz hb.size⟩

/-- One number is appended to a row, the row is stored. -/
theorem RowsAt.push {w w1 : World} {base go n t y : Nat} {F : Nat → List Nat} {rv : Nat → Value} {v1 : Value} (h : RowsAt w base go n F rv) (ht : t < n)
    (ho : w1.ownsRow base 3 1 v1 ((F t).length + 1) ((F t).map iV ++ [iV y])) (hb : Below base w w1) (hg : w.grownBy w1 (rv t).ownBlock) (hat : v1.ownBlock = (rv t).ownBlock ∨ ∃ b, v1.ownBlock = some b ∧ w.heap.size ≤ b) (F' : Nat → List Nat) (hF : ∀ s, F' s = if s = t then F t ++ [y] else F s) :
    RowsAt (w1.setCell ⟨go, t, none⟩ v1) base go n F' (upd rv t v1) := by
  have hblk1 : w1.rowIs go 22 n rv := rowIs_below h.blk hb h.lt
  have same : ∀ k, k ≠ go → (w1.setCell ⟨go, t, none⟩ v1).heap[k]? = w1.heap[k]? := fun k hk => Below.heap_setCell _ _ _ _ hk
  have hlow : ∀ s, s < n → ∀ b, (rv s).ownBlock = some b → b < w.heap.size := fun s hs b hbk => ((h.own s hs).lt b hbk).2
  have hv1 : ∀ s, s < n → s ≠ t → (rv s).ownBlock = none ∨ (rv s).ownBlock ≠ v1.ownBlock := fun s hs hne => by
    rcases hat with h1 | ⟨b, h1, h2⟩
    · rw [h1]; exact h.dis s t hs ht hne
    · cases hbs : (rv s).ownBlock with
      | none => exact .inl rfl
      | some b' =>
        right
        rw [h1]
        intro e
        have := hlow s hs b' hbs
        have e2 : b' = b := Option.some.inj e
        omega
  refine ⟨?_, fun s hs => ?_, fun s s' hs hs' hne => ?_, h.lt, ?_⟩
  · refine rowIs_upd (f' := upd rv t v1) hblk1 t v1 fun j _ => ?_
    unfold upd; rfl
  · rw [hF s]
    by_cases e : s = t
    · subst e
      rw [if_pos rfl, upd_same, List.length_append, List.map_append]
      exact own_keep ho go (own_not_low2 ho h.lt) same
    · rw [if_neg e, upd_ne _ _ _ e]
      have h1 := (h.own s hs).kept hg (h.dis s t hs ht e)
      exact own_keep h1 go (own_not_low2 h1 h.lt) same
  · by_cases e : s = t
    · subst e
      rw [upd_same, upd_ne _ _ _ (Ne.symm hne)]
      rcases hv1 s' hs' (Ne.symm hne) with h1 | h1
      · cases hbv : v1.ownBlock with
        | none => exact .inl rfl
        | some b => right; rw [h1]; intro e; cases e
      · exact .inr (Ne.symm h1)
    · rw [upd_ne _ _ _ e]
      by_cases e' : s' = t
      · subst e'
        rw [upd_same]
        exact hv1 s hs e
      · rw [upd_ne _ _ _ e']
        exact h.dis s s' hs hs' hne
  · have := h.sz; have := hb.size; simp; omega

theorem RowsAt.rii {w : World} {base go n : Nat} {F : Nat → List Nat} {rv : Nat → Value} (h : RowsAt w base go n F rv) (hn : n ≤ 8193) (hF : ∀ t, t < n → (F t).length ≤ 262144 ∧ ∀ x ∈ F t, x < n) : GrAt w (some ⟨go, 0, none⟩) (listG n F) := by
  refine ⟨⟨by rw [listG_length]; omega, fun hp => ⟨go, 0, rfl, h.blk.lt, fun j xs hx => ?_⟩⟩, listG_ok hn hF⟩
  have hj := (List.getElem?_eq_some_iff.1 hx).1
  rw [listG_length] at hj
  rw [listG_at hj] at hx
  obtain rfl := Option.some.inj hx
  have ho := h.own j hj
  have e : (F j).map iV = (ints (F j)).map (Value.int .i64) := by simp
  rw [e] at ho
  obtain ⟨A, c, hv, hc, hl, hr⟩ := own_ri ho
  refine ⟨A, c, ?_, by simpa using hc, hr⟩
  rw [Nat.zero_add, h.blk.cell hj, hv]

/-! ### the rows of the arrows turned -/
def turnK (g : Nat → List Nat) (u k t : Nat) : List Nat := turn g u t ++ sel u t ((g u).take k)
theorem turnK_zero (g : Nat → List Nat) (u : Nat) : turnK g u 0 = turn g u := by funext t; simp [turnK, sel]
theorem turnK_full (g : Nat → List Nat) (u k : Nat) (hk : (g u).length ≤ k) : turnK g u k = turn g (u + 1) := by
  funext t; unfold turnK; rw [List.take_of_length_le hk]; rfl
theorem turnK_succ {g : Nat → List Nat} {u k t : Nat} (h : (g u)[k]? = some t) (s : Nat) : turnK g u (k + 1) s = if s = t then turnK g u k t ++ [u] else turnK g u k s := by
  unfold turnK
  rw [sel_take_succ h]
  by_cases e : s = t
  · subst e; rw [if_pos rfl, if_pos rfl, List.append_assoc]
  · rw [if_neg e, if_neg (Ne.symm e)]
theorem turnK_len {g : Nat → List Nat} {u k t n : Nat} (hu : u < n) : (turnK g u k t).length ≤ sumG g n := by
  have h1 := turn_len g t (u + 1)
  have h2 : (turnK g u k t).length ≤ (turn g (u + 1) t).length := by
    unfold turnK
    simp only [turn, List.length_append, sel, List.length_map]
    have := ((List.take_sublist k (g u)).filter (fun x => x == t)).length_le
    omega
  have h3 : ∀ m m', m ≤ m' → sumG g m ≤ sumG g m' := by
    intro m m' h
    induction m' with
    | zero => obtain rfl : m = 0 := by omega
              exact Nat.le_refl _
    | succ m' ih =>
      by_cases e : m = m' + 1
      · subst e; exact Nat.le_refl _
      · have := ih (by omega)
        unfold sumG at this ⊢
        simp only [sumN]
        omega
  have := h3 (u + 1) n hu
  omega

def BackPost (w : World) (g : Nat → List Nat) (n : Nat) (e : Ending) (w' : World) : Prop :=
  ∃ rv, e = .returned (.slice (some ⟨w.heap.size, 0, none⟩) n n) ∧ RowsAt w' (w.heap.size + 1) w.heap.size n (turn g n) rv ∧ Below w.heap.size w w'
theorem RowsAt.turned {w : World} {base go n : Nat} {g : Nat → List Nat} {rv : Nat → Value} (h : RowsAt w base go n (turn g n) rv) (hn8 : n ≤ 8193) (hsum : sumG g n ≤ 262144) : GrAt w (some ⟨go, 0, none⟩) (listG n (turn g n)) :=
  h.rii hn8 (fun t _ => ⟨Nat.le_trans (turn_len g t n) hsum, fun x hx => ((mem_turn t x n).1 hx).1⟩)
theorem RowsAt.other {w : World} {base go n k j : Nat} {F : Nat → List Nat} {rv : Nat → Value} {v : Value} (h : RowsAt w base go n F rv) (hk : k < go) : RowsAt (w.setCell ⟨k, j, none⟩ v) base go n F rv :=
  ⟨rowIs_other h.blk (by omega), fun t ht => own_keep (h.own t ht) k (own_not_low2 (h.own t ht) (by have := h.lt; omega)) (fun i hi => Below.heap_setCell _ _ _ _ (show i ≠ k from hi)), h.dis, h.lt, by simp; exact h.sz⟩
theorem natG_turn {g : Nat → List Nat} {n : Nat} (hg : ∀ x, ∀ t ∈ g x, t < n) : natG (listG n (turn g n)) = turn g n := by
  funext t
  by_cases ht : t < n
  · exact natG_listG ht
  · rw [natG_out t (by rw [listG_length]; omega)]
    cases h : turn g n t with
    | nil => rfl
    | cons a l =>
      have := (mem_turn t a n).1 (by rw [h]; simp)
      exact absurd (hg a t this.2) ht

theorem rowIs_made (w : World) (z : Value) (e : TypeId) (n : Nat) : (w.alloc (.cells (madeCells #[z] n) e)).rowIs w.heap.size e n (fun _ => z) := by
  refine ⟨_, heap_alloc_new w _, ?_, fun i hi => ?_⟩
  · rw [← Array.length_toList, toList_madeCells_one]; simp
  · rw [← Array.getElem?_toList, toList_madeCells_one, List.getElem?_replicate, if_pos hi]

set_option maxRecDepth 100000 in
set_option maxHeartbeats 800000 in
theorem r12Turned_calls (w : World) (A : Option Addr) (n c : Nat) (gs : List (List Int)) (hg : GrAt w A gs) (hn : n = gs.length) (hsum : sumG (natG gs) n ≤ 262144) :
    Calls Tryd.prog 70 #[.slice A n c] w (BackPost w (natG gs) n) := by
  have HG := hid hg
  have hn8 : n ≤ 8193 := by rw [hn]; exact hg.2.1
  have HGN : Hid (∀ x, ∀ t ∈ natG gs x, t < n) := fun x t ht => by rw [hn]; exact natG_lt hg.2 x t ht
  have HN := hid hn
  have HSUM := hid hsum
  have hmk := run_make_row' (P := Tryd.prog) 51 22 (.slice none 0 0) 24 Tryd.underlying51 Tryd.infoInts2 rfl .i64 .i64 n (by omega) (by omega)
  have HB : Hid (Below w.heap.size w (w.alloc (.cells (madeCells #[.slice none 0 0] n) 22))) := below_new _ _
  have HR0 : Hid (RowsAt (w.alloc (.cells (madeCells #[.slice none 0 0] n) 22)) (w.heap.size + 1) w.heap.size n (fun _ => []) (fun _ => .slice none 0 0)) :=
    RowsAt.made (rowIs_made w (.slice none 0 0) 22 n) (fun _ _ => rfl) (Nat.lt_succ_self _) (by simp)
  clear hg hn hsum
  go_enter Tryd.func70, Tryd.ntmps70
  go_wp2_with fail
  generalize w.alloc (.cells (madeCells #[.slice none 0 0] n) 22) = w1 at *
  clear hmk
  go_loopw [4] (fun i wr => ∃ (j : Nat) (rv : Nat → Value), j ≤ n ∧ i = .int .i64 j ∧ RowsAt wr (w.heap.size + 1) w.heap.size n (turn (natG gs) j) rv ∧ Below w.heap.size w wr) (fun i _ => n - (intOf i).toNat)
  case atStart => exact ⟨0, _, Nat.zero_le _, rfl, HR0.out, HB.out⟩
  case round =>
    obtain ⟨u, rv, hu, rfl, hR, hb⟩ := hrel
    have HR := hid hR
    have HBW := hid hb
    clear hR hb
    by_cases hlt : u < n
    · obtain ⟨ba, oa, A', c', rfl, hrow, hcap, hri⟩ := HG.out.row (show u < gs.length by rw [← HN.out]; exact hlt)
      have hba : ba < w.heap.size := World.block_lt_of_cell? w _ hrow
      have hL := HG.out.rowLen u
      obtain ⟨L, hLd⟩ : ∃ L, L = (natG gs u).length := ⟨_, rfl⟩
      rw [← hLd] at hrow hcap hL
      have HLD := hid hLd
      have HRI := hid hri
      have HROW := hid hrow
      clear hri hLd hrow
      go_wp2_with fail
      try rw [show decide ((u : Int) < (n : Int)) = true from decide_eq_true (by omega)]
      go_loopw [5] (fun i wr => ∃ (k : Nat) (rv : Nat → Value), k ≤ L ∧ i = .int .i64 k ∧ RowsAt wr (w.heap.size + 1) w.heap.size n (turnK (natG gs) u k) rv ∧ Below w.heap.size w wr) (fun i _ => L - (intOf i).toNat)
      case atStart => exact ⟨0, rv, Nat.zero_le _, rfl, by rw [turnK_zero]; exact HR.out, HBW.out⟩
      case round =>
        obtain ⟨k, rv', hk, rfl, hR, hb⟩ := hrel
        have HR' := hid hR
        have HB' := hid hb
        have hrow := (HB'.out.cell (show ba < w.heap.size from hba)).trans HROW.out
        clear hR hb
        by_cases hkL : k < L
        · obtain ⟨t, ht⟩ : ∃ t, (natG gs u)[k]? = some t := ⟨_, List.getElem?_eq_getElem (by rw [← HLD.out]; exact hkL)⟩
          obtain ⟨b2, o2, t', rfl, ht', hct⟩ := (HRI.out.below HB'.out (Nat.le_refl _)).at_ (show k < (ints (natG gs u)).length by rw [List.length_map, ← HLD.out]; exact hkL)
          obtain rfl : (t : Int) = t' := by rw [List.getElem?_map, ht] at ht'; exact Option.some.inj ht'
          have htn : t < n := HGN.out u t (mem_at ht)
          have HT := hid ht
          have hcr := HR'.out.blk.cell htn
          have hown := HR'.out.own t htn
          obtain ⟨q, hq⟩ : ∃ q, q = (turnK (natG gs) u k t).length := ⟨_, rfl⟩
          have hql : q ≤ 262144 := by rw [hq]; exact Nat.le_trans (turnK_len hlt) HSUM.out
          have hapl : (q + 1) * 8 ≤ 140737488355328 := by omega
          have hsz : w.heap.size + 1 ≤ wr.heap.size := HR'.out.sz
          obtain ⟨At, ct, hvt, _, _⟩ := own_slice hown
          have HOWN : Hid (wr.ownsRow (w.heap.size + 1) 3 1 (.slice At q ct) q ((turnK (natG gs) u k t).map iV)) := by
            show World.ownsRow _ _ _ _ _ _ _
            rw [hq, ← hvt]; exact hown
          have HVT : Hid (rv' t = .slice At q ct) := by show _ = _; rw [hq]; exact hvt
          have HBS : Hid (Below (w.heap.size + 1) wr wr) := Below.refl _ _
          have HQ := hid hq
          rw [show rv' t = .slice At q ct from HVT.out] at hcr
          clear ht ht' hown hq hvt
          go_wp2_with (at_builtin; refine append1 (w0 := wr) (w.heap.size + 1) (by rfl) (.tmp 37) (.tmp 39) 22 3 (.int .i64 0) 8 (by rfl) Tryd.underlying22 Tryd.infoInt (by rfl) (by decide) _ _ _ _ (by rfl) (by rfl) (by rfl) HOWN.out HBS.out hsz hapl ?_; intro v3 w3 o3 b3 g3 at3; obtain ⟨A3, c3, hv3, _, _⟩ := own_slice o3; subst hv3; have hR3 := hid (HR'.out.push htn (F' := turnK (natG gs) u (k + 1)) (v1 := .slice A3 (q + 1) c3) (by rw [← show q = _ from HQ.out]; exact o3) b3 (by rw [show rv' t = _ from HVT.out]; exact g3) (by rw [show rv' t = _ from HVT.out]; exact at3) (turnK_succ HT.out)); have hf3 := (rowIs_below HR'.out.blk b3 HR'.out.lt).frozen t; have hc3 := (rowIs_below HR'.out.blk b3 HR'.out.lt).cell htn; have HB3 := hid b3; clear o3 g3 at3 b3)
          go_roundw
          case measure => simp [intOf]; omega
          case rel =>
            refine ⟨k + 1, _, by omega, by go_num, hR3.out, ?_⟩
            exact (HB'.out.trans (HB3.out.mono (by omega))).setCell (Nat.le_refl _) _
        · go_wp2_with fail
          go_roundw
          case measure => simp [intOf]; omega
          case rel => exact ⟨u + 1, rv', by omega, by go_num, by rw [← turnK_full (natG gs) u k (by rw [← HLD.out]; omega)]; exact HR'.out, HB'.out⟩
    · obtain rfl : n = u := by omega
      go_wp2_with fail
      go_ret
      exact ⟨_, rfl, HR.out, HBW.out⟩
set_option maxRecDepth 100000 in
set_option maxHeartbeats 800000 in
theorem gBack_calls (w : World) (A : Option Addr) (n c : Nat) (gs : List (List Int)) (hg : GrAt w A gs) (hn : n = gs.length) (hsum : sumG (natG gs) n ≤ 262144) :
    Calls Tryd.prog 68 #[.slice A n c] w (BackPost w (natG gs) n) := by
  have HG := hid hg
  have hn8 : n ≤ 8193 := by rw [hn]; exact hg.2.1
  have HGN : Hid (∀ x, ∀ t ∈ natG gs x, t < n) := fun x t ht => by rw [hn]; exact natG_lt hg.2 x t ht
  have HN := hid hn
  have HSUM := hid hsum
  have hmk := run_make_row' (P := Tryd.prog) 51 22 (.slice none 0 0) 24 Tryd.underlying51 Tryd.infoInts2 rfl .i64 .i64 n (by omega) (by omega)
  have HB : Hid (Below w.heap.size w (w.alloc (.cells (madeCells #[.slice none 0 0] n) 22))) := below_new _ _
  have HR0 : Hid (RowsAt (w.alloc (.cells (madeCells #[.slice none 0 0] n) 22)) (w.heap.size + 1) w.heap.size n (fun _ => []) (fun _ => .slice none 0 0)) :=
    RowsAt.made (rowIs_made w (.slice none 0 0) 22 n) (fun _ _ => rfl) (Nat.lt_succ_self _) (by simp)
  clear hg hn hsum
  go_enter Tryd.func68, Tryd.ntmps68
  go_wp2_with fail
  generalize w.alloc (.cells (madeCells #[.slice none 0 0] n) 22) = w1 at *
  clear hmk
  go_loopw [13] (fun i wr => ∃ (j : Nat) (rv : Nat → Value), j ≤ n ∧ i = .int .i64 j ∧ RowsAt wr (w.heap.size + 1) w.heap.size n (turn (natG gs) j) rv ∧ Below w.heap.size w wr) (fun i _ => n - (intOf i).toNat)
  case atStart => exact ⟨0, _, Nat.zero_le _, rfl, HR0.out, HB.out⟩
  case round =>
    obtain ⟨u, rv, hu, rfl, hR, hb⟩ := hrel
    have HR := hid hR
    have HBW := hid hb
    clear hR hb
    by_cases hlt : u < n
    · obtain ⟨ba, oa, A', c', rfl, hrow, hcap, hri⟩ := HG.out.row (show u < gs.length by rw [← HN.out]; exact hlt)
      have hba : ba < w.heap.size := World.block_lt_of_cell? w _ hrow
      have hL := HG.out.rowLen u
      obtain ⟨L, hLd⟩ : ∃ L, L = (natG gs u).length := ⟨_, rfl⟩
      rw [← hLd] at hrow hcap hL
      have HLD := hid hLd
      have HRI := hid hri
      have HROW := hid hrow
      clear hri hLd hrow
      have hrow0 := (HBW.out.cell (show ba < w.heap.size from hba)).trans HROW.out
      go_wp2_with fail
      try rw [show decide ((u : Int) < (n : Int)) = true from decide_eq_true (by omega)]
      go_loopw [20] (fun i wr => ∃ (k : Nat) (rv : Nat → Value), k ≤ L ∧ i = .int .i64 k ∧ RowsAt wr (w.heap.size + 1) w.heap.size n (turnK (natG gs) u k) rv ∧ Below w.heap.size w wr) (fun i _ => L - (intOf i).toNat)
      case atStart => exact ⟨0, rv, Nat.zero_le _, rfl, by rw [turnK_zero]; exact HR.out, HBW.out⟩
      case round =>
        obtain ⟨k, rv', hk, rfl, hR, hb⟩ := hrel
        have HR' := hid hR
        have HB' := hid hb
        have hrow := (HB'.out.cell (show ba < w.heap.size from hba)).trans HROW.out
        clear hR hb
        by_cases hkL : k < L
        · obtain ⟨t, ht⟩ : ∃ t, (natG gs u)[k]? = some t := ⟨_, List.getElem?_eq_getElem (by rw [← HLD.out]; exact hkL)⟩
          obtain ⟨b2, o2, t', rfl, ht', hct⟩ := (HRI.out.below HB'.out (Nat.le_refl _)).at_ (show k < (ints (natG gs u)).length by rw [List.length_map, ← HLD.out]; exact hkL)
          obtain rfl : (t : Int) = t' := by rw [List.getElem?_map, ht] at ht'; exact Option.some.inj ht'
          have htn : t < n := HGN.out u t (mem_at ht)
          have HT := hid ht
          have hcr := HR'.out.blk.cell htn
          have hown := HR'.out.own t htn
          obtain ⟨q, hq⟩ : ∃ q, q = (turnK (natG gs) u k t).length := ⟨_, rfl⟩
          have hql : q ≤ 262144 := by rw [hq]; exact Nat.le_trans (turnK_len hlt) HSUM.out
          have hapl : (q + 1) * 8 ≤ 140737488355328 := by omega
          have hsz : w.heap.size + 1 ≤ wr.heap.size := HR'.out.sz
          obtain ⟨At, ct, hvt, _, _⟩ := own_slice hown
          have HOWN : Hid (wr.ownsRow (w.heap.size + 1) 3 1 (.slice At q ct) q ((turnK (natG gs) u k t).map iV)) := by
            show World.ownsRow _ _ _ _ _ _ _
            rw [hq, ← hvt]; exact hown
          have HVT : Hid (rv' t = .slice At q ct) := by show _ = _; rw [hq]; exact hvt
          have HBS : Hid (Below (w.heap.size + 1) wr wr) := Below.refl _ _
          have HQ := hid hq
          rw [show rv' t = .slice At q ct from HVT.out] at hcr
          clear ht ht' hown hq hvt
          go_wp2_with (at_builtin; refine append1 (w0 := wr) (w.heap.size + 1) (by rfl) (.tmp 29) (.tmp 31) 22 3 (.int .i64 0) 8 (by rfl) Tryd.underlying22 Tryd.infoInt (by rfl) (by decide) _ _ _ _ (by rfl) (by rfl) (by rfl) HOWN.out HBS.out hsz hapl ?_; intro v3 w3 o3 b3 g3 at3; obtain ⟨A3, c3, hv3, _, _⟩ := own_slice o3; subst hv3; have hR3 := hid (HR'.out.push htn (F' := turnK (natG gs) u (k + 1)) (v1 := .slice A3 (q + 1) c3) (by rw [← show q = _ from HQ.out]; exact o3) b3 (by rw [show rv' t = _ from HVT.out]; exact g3) (by rw [show rv' t = _ from HVT.out]; exact at3) (turnK_succ HT.out)); have hf3 := (rowIs_below HR'.out.blk b3 HR'.out.lt).frozen t; have hc3 := (rowIs_below HR'.out.blk b3 HR'.out.lt).cell htn; have HB3 := hid b3; clear o3 g3 at3 b3)
          go_roundw
          case measure => simp [intOf]; omega
          case rel =>
            refine ⟨k + 1, _, by omega, by go_num, hR3.out, ?_⟩
            exact (HB'.out.trans (HB3.out.mono (by omega))).setCell (Nat.le_refl _) _
        · go_wp2_with fail
          go_roundw
          case measure => simp [intOf]; omega
          case rel => exact ⟨u + 1, rv', by omega, by go_num, by rw [← turnK_full (natG gs) u k (by rw [← HLD.out]; omega)]; exact HR'.out, HB'.out⟩
    · obtain rfl : n = u := by omega
      go_wp2_with fail
      go_ret
      exact ⟨_, rfl, HR.out, HBW.out⟩
end Go.Proofs.YtapebbejdgeijaaDoor
