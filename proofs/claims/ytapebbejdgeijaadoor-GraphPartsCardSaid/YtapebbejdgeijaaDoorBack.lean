/- slices.Backward of ints: the iterator's contract. -/
import Derived.RangeFuncNested
import Derived.RangeFuncBound
import Derived.RangeFuncCalls
import Derived.RangeFuncLeaves
import Derived.RangeFuncBox
import Derived.Shelf.Abstract
import Derived.Shelf.RegionOpen
import Derived.WalkKit
import Derived.OwnWalkIn
import Derived.TacticsInMore
import Derived.LoopNIn
import Derived.LoopIn
import Derived.Test.YtapebbejdgeijaaDoorBase
import Derived.Test.YtapebbejdgeijaaDoorProg
namespace Go.Proofs.YtapebbejdgeijaaDoor
open Go.RowKit Go.Shelf

attribute [local go_sem] Oper.semAt_some

/-- What lies below n₀, but for one block, stays. -/
def KpX (n₀ gx : Nat) (A B : World) : Prop := ∀ j, j < n₀ → j ≠ gx → B.heap[j]? = A.heap[j]?
theorem KpX.refl (n₀ gx : Nat) (A : World) : KpX n₀ gx A A := fun _ _ _ => rfl
theorem KpX.trans {n₀ gx : Nat} {A B C : World} (h : KpX n₀ gx A B) (k : KpX n₀ gx B C) : KpX n₀ gx A C := fun j h1 h2 => (k j h1 h2).trans (h j h1 h2)
theorem KpX.cell {n₀ gx : Nat} {A B : World} (h : KpX n₀ gx A B) {p : Addr} (h1 : p.block < n₀) (h2 : p.block ≠ gx) : B.cell? p = A.cell? p := World.cell?_of_block (h p.block h1 h2)
theorem KpX.of_below {n₀ gx : Nat} {A B : World} (h : Below n₀ A B) : KpX n₀ gx A B := fun j h1 _ => h.block j h1
theorem kpX_put {w : World} {n₀ gx : Nat} (hn : n₀ ≤ w.heap.size) (W : World) (l : Nat) (o o' : Obj) (h : w.heap.size ≤ l) (_h1 : W.heap[l]? = some o) (_h2 : o.isCells = false) (_h3 : o.isWalk = false) : KpX n₀ gx W (W.putObj l o') := fun j h1 _ => World.putObj_heap_other (by omega)
/-- What has come when k rounds are over. -/
def backTo {α : Type} (d : α) (zs : List α) (k : Nat) : List (Nat × α) := (List.range k).map fun j => (zs.length - 1 - j, zs[zs.length - 1 - j]?.getD d)
theorem backTo_succ {α : Type} (d : α) (zs : List α) (k : Nat) : backTo d zs (k + 1) = backTo d zs k ++ [(zs.length - 1 - k, zs[zs.length - 1 - k]?.getD d)] := by simp [backTo, List.range_succ]
theorem backTo_length {α : Type} (d : α) (zs : List α) (k : Nat) : (backTo d zs k).length = k := by simp [backTo]

set_option maxRecDepth 100000 in
set_option maxHeartbeats 2000000 in
theorem back1_in {α : Type} (d : α) (val : α → Int) (F : Fence) (n : Nat) (h8 : F.fn 137) (hro : F.round = none) (hn : 1 ≤ n) (l Bs n₀ gx b off cap : Nat) (zs : List α) (hreach : zs.length ≤ 70000) (hb : b < n₀) (hbx : b ≠ gx) (hBn : Bs < n₀) (hBx : Bs ≠ gx) (J Jx : List (Nat × α) → World → Prop)
    (hY : ∀ pre x W, J pre W → pre.length < zs.length → YieldAt F (n - 1) Tryd.prog l #[.int .i64 (x.1 : Int), .int .i64 (val x.2)] W fun e W' =>
      (e = .returned (.bool true) ∧ J (pre ++ [x]) W' ∧ KpX n₀ gx W W') ∨ (e = .returned (.bool false) ∧ Jx (pre ++ [x]) W'))
    (W : World) (hBs : W.cell? ⟨Bs, 0, none⟩ = some (.slice (some ⟨b, off, none⟩) zs.length cap)) (hc : ∀ j, j < zs.length → W.cell? ⟨b, off + j, none⟩ = some (.int .i64 (val (zs[j]?.getD d)))) (h0 : J [] W) :
    CallsIn F n Tryd.prog 137 #[.func (.yield l) #[] #[], .pointer (some ⟨Bs, 0, none⟩)] W fun e W' => (∃ v, e = .returned v) ∧
      ((∃ ys, ys = backTo d zs zs.length ∧ J ys W') ∨ (∃ pre, (∃ k, k ≤ zs.length ∧ pre = backTo d zs k) ∧ Jx pre W')) := by
  refine callsIn_of_wp Tryd.func137 rfl h8 ?_ hro
  simp only [Tryd.ntmps137, List.size_toArray, List.length_cons, List.length_nil, Nat.reduceAdd, Nat.reduceSub, Array.replicate_succ, Array.replicate_zero, List.push_toArray, List.append_toArray, List.nil_append, List.cons_append]
  obtain ⟨len, hlen⟩ : ∃ len, len = zs.length := ⟨_, rfl⟩
  have HLEN := hid hlen
  have HB0 : backTo d zs len = backTo d zs zs.length := by rw [hlen]
  rw [← hlen] at hBs hc hreach hY
  have hpre : ∀ k, k ≤ len → k ≤ zs.length := fun k h => by omega
  clear hlen
  gi_wp2
  gi_loopw [3] (fun i wr => ∃ k : Nat, k ≤ len ∧ i = .int .i64 ((len : Int) - 1 - (k : Int)) ∧ J (backTo d zs k) wr ∧ KpX n₀ gx W wr)
    (fun i _ => (intOf i + 1).toNat)
  case atStart => exact ⟨0, Nat.zero_le _, by congr 1; omega, h0, KpX.refl _ _ _⟩
  case round =>
    obtain ⟨k, hk, rfl, hJs, hnx⟩ := hrel
    have hbs := (hnx.cell (p := ⟨Bs, 0, none⟩) hBn hBx).trans hBs
    by_cases hlt : k < len
    · obtain ⟨q, hq⟩ : ∃ q, q = len - 1 - k := ⟨_, rfl⟩
      have eq1 : (len : Int) - 1 - (k : Int) = (q : Int) := by omega
      have hql : q < len := by omega
      have hcx : wr.cell? ⟨b, off + q, none⟩ = some (.int .i64 (val (zs[q]?.getD d))) := (hnx.cell (p := ⟨b, off + q, none⟩) hb hbx).trans (hc q hql)
      obtain ⟨fn, tmps, assign, body, hy, hR⟩ := hY _ (q, zs[q]?.getD d) wr hJs (by rw [backTo_length]; exact hlt)
      dsimp only at hy
      have HQ := hid hq
      clear hq
      gi_wp2
      refine hR.mono ?_
      rintro e W3 (⟨rfl, hJ3, hk3⟩ | ⟨rfl, hJx3⟩)
      · gi_wp2
        go_roundw
        case rel => exact ⟨k + 1, by omega, by congr 1; omega, by rw [backTo_succ, ← show len = zs.length from HLEN.out, ← show q = len - 1 - k from HQ.out]; exact hJ3, hnx.trans hk3⟩
        case measure => simp [intOf]; omega
      · gi_wp2
        refine bodyPost_ret (results_none rfl _ _ _) rfl ?_
        exact ⟨⟨_, rfl⟩, .inr ⟨_, ⟨k + 1, hpre _ (by omega), by rw [backTo_succ, ← show len = zs.length from HLEN.out, ← show q = len - 1 - k from HQ.out]⟩, hJx3⟩⟩
    · obtain rfl : k = len := by omega
      gi_wp2
      go_end0
      exact ⟨⟨_, rfl⟩, .inl ⟨_, rfl, HB0 ▸ hJs⟩⟩

set_option maxHeartbeats 1000000 in
/-- slices.Backward(s): the slice is boxed; the function value captures the box. -/
theorem backward_in (F : Fence) (n : Nat) (h5 : F.fn 124) (hro : F.round = none) (a : Option Addr) (len cap : Nat) (w : World) :
    CallsIn F n Tryd.prog 124 #[.slice a len cap] w fun e w' => e = .returned (.func (.func 137) #[] #[.pointer (some ⟨w.heap.size, 0, none⟩)]) ∧ w' = w.alloc (.cells #[.slice a len cap] 22) := by
  refine callsIn_of_wp Tryd.func124 rfl h5 ?_ hro
  simp only [Tryd.ntmps124, List.size_toArray, List.length_cons, List.length_nil, Nat.reduceAdd, Nat.reduceSub, Array.replicate_succ, Array.replicate_zero, List.push_toArray, List.append_toArray, List.nil_append, List.cons_append]
  gi_wp2
  go_ret
  exact ⟨rfl, rfl⟩

theorem back_stops {α : Type} (d : α) (val : α → Int) (F : Fence) (n : Nat) (h7 : F.fn 137) (hro : F.round = none) (hn : 1 ≤ n) (Bs n₀ gx b off cap : Nat) (zs : List α) (hreach : zs.length ≤ 70000) (w : World) (hBs : Bs < n₀) (hBx : Bs ≠ gx) (hb : b < n₀) (hbx : b ≠ gx) (hn₀ : n₀ ≤ w.heap.size)
    (hc : w.cell? ⟨Bs, 0, none⟩ = some (.slice (some ⟨b, off, none⟩) zs.length cap)) (hI : ∀ j, j < zs.length → w.cell? ⟨b, off + j, none⟩ = some (.int .i64 (val (zs[j]?.getD d)))) :
    SeqStopsK F n Tryd.prog 137 #[.pointer (some ⟨Bs, 0, none⟩)] (fun x : Nat × α => #[Value.int .i64 (x.1 : Int), .int .i64 (val x.2)]) (KpX n₀ gx) (fun ys => ys = backTo d zs zs.length) (fun pre => ∃ k, k ≤ zs.length ∧ pre = backTo d zs k) zs.length w := fun l J Jx W hW _ _ hY h0 => by
  have hW' := hW.mono hn₀
  exact back1_in d val F n h7 hro hn l Bs n₀ gx b off cap zs hreach hb hbx hBs hBx J Jx hY W ((hW'.cell (p := ⟨Bs, 0, none⟩) hBs).trans hc) (fun j hj => (hW'.cell (p := ⟨b, off + j, none⟩) hb).trans (hI j hj)) h0
end Go.Proofs.YtapebbejdgeijaaDoor
