/- edenlaw12: lent, kept, heavy. -/
import Derived.Test.YtapebbejdgeijaaDoorLentG
import Derived.Test.YtapebbejdgeijaaDoorGrG
namespace Go.Proofs.YtapebbejdgeijaaDoor
open Go.RowKit Go.Extern.Stop Go.Stop Go.Extern Go.Deep Tar

/-- The rows below k are lent. -/
structure LentRows (w : World) (go n k : Nat) (gs : List (List Int)) (rows : Nat → Nat) : Prop where
  blk : w.rowIs go 22 n (fun j => if j < k then .slice (some ⟨rows j, 0, none⟩) (gs.getD j []).length ((gs.getD j []).length + 2) else .slice none 0 0)
  at_ : ∀ j, j < k → w.heap[rows j]? = some (.cells (lentCells (gs.getD j [])).toArray 3 (0, 0)) ∧ go < rows j
theorem LentRows.below {w w' : World} {go n k : Nat} {gs : List (List Int)} {rows : Nat → Nat} (h : LentRows w go n k gs rows) (hb : Below w.heap.size w w') : LentRows w' go n k gs rows :=
  ⟨rowIs_below h.blk hb h.blk.lt, fun j hj => ⟨(hb.block _ (Array.getElem?_eq_some_iff.1 (h.at_ j hj).1).1).trans (h.at_ j hj).1, (h.at_ j hj).2⟩⟩
theorem getD_at {gs : List (List Int)} {j : Nat} {xs : List Int} (h : gs[j]? = some xs) : gs.getD j [] = xs := by rw [List.getD_eq_getElem?_getD, h]; rfl
theorem LentRows.rii {w : World} {go n : Nat} {gs : List (List Int)} {rows : Nat → Nat} (h : LentRows w go n n gs rows) (hn : n = gs.length) (hm : n ≤ 9223372036854775807) (hl : ∀ xs ∈ gs, xs.length ≤ 17592186043904) : RII w .i64 (some ⟨go, 0, none⟩) gs := by
  refine ⟨by omega, fun _ => ⟨go, 0, rfl, h.blk.lt, fun j xs hx => ?_⟩⟩
  have hj : j < n := by rw [hn]; exact (List.getElem?_eq_some_iff.1 hx).1
  have hc := h.blk.cell hj
  rw [if_pos hj, getD_at hx] at hc
  have ha := (h.at_ j hj).1
  rw [getD_at hx] at ha
  exact ⟨_, _, by rw [Nat.zero_add]; exact hc, by omega, lentG_ri ha (hl xs (List.mem_of_getElem? hx))⟩

set_option maxRecDepth 100000 in
set_option maxHeartbeats 800000 in
theorem lent12_calls (w : World) (A : Option Addr) (n c : Nat) (gs : List (List Int)) (hr : RII w .i64 A gs) (hn : n = gs.length) (hn24 : n ≤ 5864062014805) (hl : ∀ xs ∈ gs, xs.length ≤ 17592186043904) :
    Calls Tryd.prog 27 #[.slice A n c] w fun e w' => e = .returned (.slice (some ⟨w.heap.size, 0, none⟩) n n) ∧ Below w.heap.size w w' ∧ ∃ rows, LentRows w' w.heap.size n n gs rows := by
  have HR := hid hr
  have HN := hid hn
  have HL := hid hl
  clear hr hn hl
  have hmk := run_make_row' (P := Tryd.prog) 51 22 (.slice none 0 0) 24 Tryd.underlying51 Tryd.infoInts2 rfl .i64 .i64 n (by omega) (by omega)
  have HL0 : Hid (LentRows (w.alloc (.cells (madeCells #[.slice none 0 0] n) 22)) w.heap.size n 0 gs (fun _ => 0)) := ⟨(rowIs_made w (.slice none 0 0) 22 n).congr fun j _ => by rw [if_neg (Nat.not_lt_zero j)], fun j hj => absurd hj (Nat.not_lt_zero j)⟩
  have HB0 : Hid (Below w.heap.size w (w.alloc (.cells (madeCells #[.slice none 0 0] n) 22))) := below_new _ _
  go_enter Tryd.func27, Tryd.ntmps27
  go_wp2_with fail
  generalize w.alloc (.cells (madeCells #[.slice none 0 0] n) 22) = w1 at *
  clear hmk
  generalize hgo : w.heap.size = go at *
  have HGO : Hid (go = w.heap.size) := hgo.symm
  clear hgo
  go_loopw [4] (fun iv wr => ∃ (k : Nat) (rows : Nat → Nat), k ≤ n ∧ iv = .int .i64 k ∧ LentRows wr go n k gs rows ∧ Below go w wr) (fun iv _ => n - (intOf iv).toNat)
  case atStart => exact ⟨0, _, Nat.zero_le _, rfl, HL0.out, HB0.out⟩
  case round =>
    clear HL0 HB0
    obtain ⟨k, rows, hk, rfl, hlr, hb⟩ := hrel
    have HLR := hid hlr
    have HB := hid hb
    clear hlr hb
    by_cases hlt : k < n
    · obtain ⟨ba, oa, xs, A', c', rfl, hx, hc, hcap, hri⟩ := HR.out.at_ (show k < gs.length by rw [← HN.out]; exact hlt)
      have hba : ba < go := by rw [show go = _ from HGO.out]; exact World.block_lt_of_cell? w _ hc
      have hrow := (HB.out.cell (p := ⟨ba, oa + k, none⟩) hba).trans hc
      obtain ⟨L, hL⟩ : ∃ L, L = xs.length := ⟨_, rfl⟩
      have hxl := HL.out xs (List.mem_of_getElem? hx)
      rw [← hL] at hrow hcap
      have HX := hid hx
      have HLL := hid hL
      have HRI := hid (hri.below HB.out (by rw [show go = _ from HGO.out]; exact Nat.le_refl _))
      clear hx hc hri hL
      go_wp2_with fail
      refine (lentG_calls wr A' L c' xs HLL.out HRI.out hxl).mono ?_
      rintro e w2 ⟨rfl, hcell2, hb2⟩
      have HLR2 := hid (HLR.out.below hb2)
      have HB2 := hid (below_then HB.out hb2 (by rw [show go = _ from HGO.out]; exact HB.out.size))
      obtain ⟨r, hrr⟩ : ∃ r, r = wr.heap.size := ⟨_, rfl⟩
      rw [← hrr] at hcell2 ⊢
      have hgr : go < r := by rw [hrr]; exact HLR.out.blk.lt
      have HC2 := hid hcell2
      have hfz := HLR2.out.blk.frozen k
      have hcc := HLR2.out.blk.cell hlt
      rw [if_neg (Nat.lt_irrefl k)] at hcc
      have hrlt : ∀ j, j < k → rows j ≠ r := fun j hj => by have := (Array.getElem?_eq_some_iff.1 (HLR.out.at_ j hj).1).1; omega
      have HRL := hid hrlt
      clear hcell2 hb2 HLR HB hrr hrlt
      go_wp2_with fail
      go_roundw
      case measure => simp [intOf]; omega
      case rel =>
        have hgx : gs.getD k [] = xs := getD_at HX.out
        refine ⟨k + 1, upd rows k r, by omega, by go_num, ⟨rowIs_upd HLR2.out.blk k _ fun j _ => ?_, fun j hj => ?_⟩, HB2.out.setCell (Nat.le_refl _) _⟩
        · by_cases e : j = k
          · subst e
            rw [if_pos (by omega), if_pos rfl, hgx, ← show L = _ from HLL.out, upd_same]
          · rw [if_neg e]
            by_cases e2 : j < k
            · rw [if_pos e2, if_pos (by omega), upd_ne _ _ _ e]
            · rw [if_neg e2, if_neg (by omega)]
        · by_cases e : j = k
          · subst e
            rw [upd_same, hgx]
            exact ⟨(Below.heap_setCell _ _ _ _ (show r ≠ go by omega)).trans HC2.out, hgr⟩
          · rw [upd_ne _ _ _ e]
            have h := HLR2.out.at_ j (by omega)
            exact ⟨(Below.heap_setCell _ _ _ _ (show rows j ≠ go by have := h.2; omega)).trans h.1, h.2⟩
    · obtain rfl : n = k := by omega
      go_wp2_with fail
      go_ret
      rw [← show go = _ from HGO.out]
      exact ⟨rfl, HB.out, rows, HLR.out⟩

set_option maxRecDepth 100000 in
set_option maxHeartbeats 800000 in
theorem kept12_calls (w : World) (A : Option Addr) (n c go : Nat) (gs : List (List Int)) (rows : Nat → Nat) (hr : RII w .i64 A gs) (hn : n = gs.length) (hn24 : n ≤ 5864062014805) (hl : ∀ xs ∈ gs, xs.length ≤ 17592186043904) (hlr : LentRows w go n n gs rows) :
    Calls Tryd.prog 32 #[.slice (some ⟨go, 0, none⟩) n n, .slice A n c] w fun e w' => e = .returned (.bool true) ∧ Below w.heap.size w w' := by
  have HR := hid hr
  have HN := hid hn
  have HL := hid hl
  have HLR := hid hlr
  clear hr hn hl hlr
  go_enter Tryd.func32, Tryd.ntmps32
  go_wp2_with fail
  go_loopw [5] (fun iv wr => ∃ k : Nat, k ≤ n ∧ iv = .int .i64 k ∧ Below w.heap.size w wr) (fun iv _ => n - (intOf iv).toNat)
  case atStart => exact ⟨0, Nat.zero_le _, rfl, Below.refl _ _⟩
  case round =>
    obtain ⟨k, hk, rfl, hb⟩ := hrel
    have HB := hid hb
    clear hb
    by_cases hlt : k < n
    · obtain ⟨ba, oa, xs, A', c', rfl, hx, hc, hcap, hri⟩ := HR.out.at_ (show k < gs.length by rw [← HN.out]; exact hlt)
      have hrow := (HB.out.cell (p := ⟨ba, oa + k, none⟩) (World.block_lt_of_cell? w _ hc)).trans hc
      obtain ⟨L, hL⟩ : ∃ L, L = xs.length := ⟨_, rfl⟩
      have hxl := HL.out xs (List.mem_of_getElem? hx)
      have hgx : gs.getD k [] = xs := getD_at hx
      have hcc := HLR.out.blk.cell hlt
      rw [if_pos hlt, hgx, ← hL] at hcc
      have hat := (HLR.out.at_ k hlt).1
      rw [hgx] at hat
      have hgo := HLR.out.blk.lt
      obtain ⟨r, hrr⟩ : ∃ r, r = rows k := ⟨_, rfl⟩
      rw [← hrr] at hcc hat
      have hcc' := (HB.out.cell (p := ⟨go, k, none⟩) hgo).trans hcc
      have HAT := hid ((HB.out.block r (Array.getElem?_eq_some_iff.1 hat).1).trans hat)
      rw [← hL] at hrow hcap
      have HLL := hid hL
      have HRI := hid (hri.below HB.out (Nat.le_refl _))
      clear hx hc hri hL hgx hcc hat hrr hgo
      go_wp2_with fail
      go_region_with (go_at_call 56; refine (keptG_calls _ r A' L c' xs HLL.out hxl (by exact HAT.out) (by exact HRI.out)).mono ?_; rintro e w2 ⟨rfl, nd, rfl⟩)
      all_goals
        go_wp2_with fail
        go_roundw
        case measure => simp [intOf]; omega
        case rel => exact ⟨k + 1, by omega, by go_num, ⟨HB.out.os, HB.out.tape, HB.out.output, HB.out.size, HB.out.block⟩⟩
    · obtain rfl : n = k := by omega
      go_wp2_with fail
      go_ret
      exact ⟨rfl, HB.out⟩

def RetBool (w : World) (e : Ending) (w' : World) : Prop := ∃ b, e = .returned (.bool b) ∧ Below w.heap.size w w'
set_option maxRecDepth 100000 in
theorem heavy12_calls (w : World) (A : Option Addr) (n c : Nat) (gs : List (List Int)) (hr : RII w .i64 A gs) (hn : n = gs.length) (hn24 : n ≤ 5864062014805) :
    Calls Tryd.prog 33 #[.slice A n c] w (RetBool w) := by
  have HR := hid hr
  have HN := hid hn
  clear hr hn
  go_enter Tryd.func33, Tryd.ntmps33
  go_wp2_with fail
  go_loopw [4, 3] (fun iv xv wr => ∃ (k : Nat) (x : Int), k ≤ n ∧ iv = .int .i64 k ∧ xv = .int .i64 x ∧ Below w.heap.size w wr) (fun iv _ _ => n - (intOf iv).toNat)
  case atStart => exact ⟨0, 0, Nat.zero_le _, rfl, rfl, Below.refl _ _⟩
  case round =>
    obtain ⟨k, x, hk, rfl, rfl, hb⟩ := hrel
    have HB := hid hb
    clear hb
    by_cases hlt : k < n
    · obtain ⟨ba, oa, xs, A', c', rfl, hx, hc, hcap, hri⟩ := HR.out.at_ (show k < gs.length by rw [← HN.out]; exact hlt)
      have hrow := (HB.out.cell (p := ⟨ba, oa + k, none⟩) (World.block_lt_of_cell? w _ hc)).trans hc
      have hl := hri.1
      generalize xs.length = L at *
      clear hx hc hri
      by_cases hx4 : x ≤ 4000
      · go_wp2_with fail
        go_roundw
        case measure => simp [intOf]; omega
        case rel => exact ⟨k + 1, _, by omega, by go_num, rfl, HB.out⟩
      · by_cases hn3 : 300 < n
        · go_wp2_with fail
          go_ret
          exact ⟨_, rfl, HB.out⟩
        · have hx5 : 4000 < x := by omega
          go_wp2_with fail
          go_ret
          exact ⟨_, rfl, HB.out⟩
    · obtain rfl : n = k := by omega
      by_cases hn3 : 300 < n
      · go_wp2_with fail
        go_ret
        exact ⟨_, rfl, HB.out⟩
      · by_cases hx5 : 4000 < x
        · go_wp2_with fail
          go_ret
          exact ⟨_, rfl, HB.out⟩
        · go_wp2_with fail
          go_ret
          exact ⟨_, rfl, HB.out⟩
end Go.Proofs.YtapebbejdgeijaaDoor
