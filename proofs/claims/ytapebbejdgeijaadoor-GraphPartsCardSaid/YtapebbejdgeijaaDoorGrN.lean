/- slices.Reverse; the lists of a graph, sorted. -/
import Derived.Test.YtapebbejdgeijaaDoorSrt
import Derived.Test.YtapebbejdgeijaaDoorGrC
import Derived.Shelf.Slices.Reverse
namespace Go.Proofs
open Go.Shelf Go.RowKit Go.Sort
def Tryd.lays112_ren : Go.Shelf.Ren := ⟨fun | 112 => 99 | n => n, fun | 28 => 22 | n => n, fun n => n⟩
theorem Tryd.lays112 : Go.Proofs.Lays.n112 Tryd.prog Tryd.lays112_ren := {
  mixed := by kernel_rfl
  f112 := Tryd.func99.trans (congrArg some (by kernel_rfl))
  t0 := Tryd.underlying0
  a0 := Tryd.isAgg0
  z0 := Tryd.sizeOf0
  v0 := Tryd.zeroValue0
  t3 := Tryd.underlying3
  a3 := Tryd.isAgg3
  z3 := Tryd.sizeOf3
  v3 := Tryd.zeroValue3
  t4 := Tryd.underlying4
  a4 := Tryd.isAgg4
  z4 := Tryd.sizeOf4
  v4 := Tryd.zeroValue4
  t28 := Tryd.underlying22
  a28 := Tryd.isAgg22
  z28 := Tryd.sizeOf22
  v28 := Tryd.zeroValue22 }
end Go.Proofs
namespace Go.Proofs.YtapebbejdgeijaaDoor
open Go.RowKit Go.Extern.Stop Go.Stop Go.Extern Go.Deep Go.Shelf Tar

theorem reverse_calls (w : World) (base n : Nat) (v : Value) (zs : List Int) (ho : w.ownsRow base 3 1 v n (zs.map (Value.int .i64))) (hn : n < 4611686018427387904) :
    Calls Tryd.prog 99 #[v] w fun e w' => e = .returned (.tuple #[]) ∧ w'.ownsRow base 3 1 v n (zs.reverse.map (Value.int .i64)) ∧ Below base w w' := by
  have hl : zs.length = n := by have := ho.1; simpa using this
  rcases ho.2 with ⟨rfl, h0⟩ | ⟨g, cap, cur, rfl, hb, hh, h1, h2, h3, h4⟩
  · subst h0
    refine (Any.slices_Reverse_int_empty Tryd.lays112 none 0 w).mono ?_
    rintro e w' ⟨rfl, rfl⟩
    obtain rfl : zs = [] := List.eq_nil_of_length_eq_zero hl
    exact ⟨rfl, ho, Below.refl _ _⟩
  · subst hl
    have hg : g < w.heap.size := (Array.getElem?_eq_some_iff.1 hh).1
    refine (Any.slices_Reverse_int Tryd.lays112 g 0 cap zs w (holds_of_blockI hh (by simpa using h4)) (by omega)).mono ?_
    rintro e w' ⟨rfl, m, rfl⟩
    have hgr := grownBy_sortedI (w := w) (g := g) (n := m) (os := #[]) zs.reverse.toArray
    have hro := ownsRow_sortedI (w := w) (n := m) (os := #[]) (ss := zs) (ts := zs.reverse) (by simp) hb hh h1 h2 h3
    have e : ∀ W : World, Sort.grow W #[] = W := fun W => by simp [Sort.grow]
    rw [e] at hgr hro
    exact ⟨rfl, hro, (Below.refl base w).grown hgr (Nat.le_trans hb (Nat.le_of_lt hg)) (fun k hk => by obtain rfl := Option.some.inj hk; exact hb)⟩

/-- The vertices to which a vertex leads, sorted. -/
def svG (g : Nat → List Nat) (v : Nat) : List Nat := (sortI (ints (g v))).map Int.toNat
theorem svG_ints (g : Nat → List Nat) (v : Nat) : ints (svG g v) = sortI (ints (g v)) := by
  show List.map _ (List.map _ _) = _
  rw [List.map_map]
  refine (List.map_congr_left fun x hx => ?_).trans (List.map_id _)
  obtain ⟨t, _, rfl⟩ := List.mem_map.1 (mem_sortI.1 hx)
  rfl
theorem svG_mem {g : Nat → List Nat} {v t : Nat} : t ∈ svG g v ↔ t ∈ g v := by
  have e : ∀ l : List Nat, (t : Int) ∈ ints l ↔ t ∈ l := fun l => ⟨fun h => by
    obtain ⟨a, ha, e⟩ := List.mem_map.1 h
    obtain rfl : a = t := by omega
    exact ha, fun h => List.mem_map.2 ⟨t, h, rfl⟩⟩
  rw [← e, ← e, svG_ints]
  exact mem_sortI
theorem svG_len (g : Nat → List Nat) (v : Nat) : (svG g v).length = (g v).length := by
  unfold svG; rw [List.length_map, sortI_length, List.length_map]
theorem svG_srt (g : Nat → List Nat) (v : Nat) : (svG g v).Pairwise (· ≤ ·) := by
  have h := sortI_sorted (ints (g v))
  rw [← svG_ints, List.pairwise_map] at h
  exact h.imp (fun h => by omega)
theorem reach_congr {g g' : Nat → List Nat} (h : ∀ v t, t ∈ g v → t ∈ g' v) {a b : Nat} (hr : Tar.Reach (Arr g) a b) : Tar.Reach (Arr g') a b := by
  induction hr with
  | refl => exact .refl _
  | step _ e ih => exact .step ih (h _ _ e)
theorem pathN_congr {g g' : Nat → List Nat} (h : ∀ v t, t ∈ g v → t ∈ g' v) {b t d : Nat} (hp : PathN g b t d) : PathN g' b t d := by
  induction hp with
  | stop => exact .stop
  | go e _ ih => exact .go (h _ _ e) ih
theorem lex_congr {g g' : Nat → List Nat} (h : ∀ v t, t ∈ g v ↔ t ∈ g' v) {b x : Nat} {l : List Nat} (hl : Lex g b x l) : Lex g' b x l := by
  induction hl with
  | stop => exact .stop
  | go hne e _ hmin ih => exact .go hne ((h _ _).1 e) ih fun t ht d hp => hmin t ((h _ _).2 ht) d (pathN_congr (fun v t h' => (h v t).2 h') hp)

/-- A row of a graph, sorted by the library. -/
theorem sortRow_calls (w : World) (A : Option Addr) (L c : Nat) (l : List Nat) (hL : L = l.length) (hl : L ≤ 262144) (hr : RI w .i64 A (ints l)) :
    Calls Tryd.prog 112 #[.func (.func 133) #[] #[.pointer (some ⟨w.heap.size, 0, none⟩)]] (w.alloc (.cells #[.slice A L c] 22)) fun e w' => ∃ v, e = .returned v ∧ w'.ownsRow w.heap.size 3 1 v L ((sortI (ints l)).map (Value.int .i64)) ∧ Below w.heap.size w w' ∧ (∀ k, v.ownBlock = some k → w.heap.size ≤ k) := by
  have hb1 := below_new w (.cells #[.slice A L c] 22)
  have hll : (ints l).length = L := by rw [List.length_map, hL]
  refine (sorted_calls (w.alloc (.cells #[.slice A L c] 22)) w.heap.size c A (ints l) (by rw [hll]; exact hl) (by rw [hll]; exact cell_one _ _ _) (fun j hj => ?_)).mono ?_
  · obtain ⟨b, o, x, hA, hx, hc⟩ := hr.at_ hj
    have hbl : b < w.heap.size := World.block_lt_of_cell? w _ hc
    refine ⟨b, o, hA, (hb1.cell (p := ⟨b, o + j, none⟩) hbl).trans ?_⟩
    rw [hc, List.getD_eq_getElem?_getD, hx]
    rfl
  · rintro e w' ⟨v, rfl, ho, hb⟩
    rw [hll] at ho
    exact ⟨v, rfl, own_base ho (by simp), below_then hb1 hb (by simp), fun k hk => Nat.le_trans (by simp) (ho.lt k hk).1⟩
end Go.Proofs.YtapebbejdgeijaaDoor
