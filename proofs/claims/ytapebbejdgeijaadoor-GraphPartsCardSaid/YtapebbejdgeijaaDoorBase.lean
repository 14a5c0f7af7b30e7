/- Small lemmas on worlds, slices that are read, owned rows; nothing of the program. -/
import Derived.WalkKit
import Derived.Lib.Hide
import Derived.Maps.AppendAt
import Derived.Deep.AppendLies
import Derived.Deep.Draws
import Derived.Deep.LoopGhost
import Derived.Deep.OwnRows
import Derived.Laws.AppendOwnNone
namespace Go.Proofs.YtapebbejdgeijaaDoor
open Go.RowKit

abbrev i64 (n : Int) : Value := .int .i64 n
theorem hid {p : Prop} (h : p) : Hid p := h

/-! ### owned rows -/
theorem own_form {w : World} {base : Nat} {e : TypeId} {size n : Nat} {v : Value} {xs : List Value} (h : w.ownsRow base e size v n xs) (hn : 0 < n) :
    ∃ g cap, v = .slice (some ⟨g, 0, none⟩) n cap ∧ g < w.heap.size ∧ base ≤ g ∧ n ≤ cap ∧ n ≤ 9223372036854775807 := by
  rcases h.2 with ⟨_, h0⟩ | ⟨g, cap, cur, rfl, hb, hh, h1, h2, _⟩
  · omega
  · exact ⟨g, cap, rfl, (Array.getElem?_eq_some_iff.1 hh).1, hb, h1, by simp only [maxLen] at h2; omega⟩

theorem own_slice {w : World} {base : Nat} {e : TypeId} {size n : Nat} {v : Value} {xs : List Value} (h : w.ownsRow base e size v n xs) : ∃ A c, v = .slice A n c ∧ n ≤ c ∧ n ≤ 9223372036854775807 := by
  rcases h.2 with ⟨rfl, rfl⟩ | ⟨g, cap, cur, rfl, hb, hh, h1, h2, _⟩
  · exact ⟨none, 0, rfl, Nat.le_refl _, by omega⟩
  · exact ⟨_, cap, rfl, h1, by simp only [maxLen] at h2; omega⟩

theorem own_base {w : World} {base base' : Nat} {e : TypeId} {size n : Nat} {v : Value} {xs : List Value} (h : w.ownsRow base e size v n xs) (hb : base' ≤ base) : w.ownsRow base' e size v n xs := by
  refine ⟨h.1, ?_⟩
  rcases h.2 with h | ⟨g, cap, cur, h1, h2, h3⟩
  · exact .inl h
  · exact .inr ⟨g, cap, cur, h1, Nat.le_trans hb h2, h3⟩

/-- An owned row stays while nothing below some number turns, and it lies below that number. -/
theorem own_below {w w' : World} {base B : Nat} {e : TypeId} {size n : Nat} {v : Value} {xs : List Value} (h : w.ownsRow base e size v n xs) (hb : Below B w w') (hB : w.heap.size ≤ B) : w'.ownsRow base e size v n xs := by
  refine ⟨h.1, ?_⟩
  rcases h.2 with h | ⟨g, cap, cur, h1, h2, h3, h4⟩
  · exact .inl h
  · exact .inr ⟨g, cap, cur, h1, h2, by rw [hb.block g (Nat.lt_of_lt_of_le (Array.getElem?_eq_some_iff.1 h3).1 hB)]; exact h3, h4⟩

theorem own_block {w : World} {base g : Nat} {cs : List Value} {e : TypeId} (h : w.heap[g]? = some (.cells cs.toArray e (0, 0))) (n : Nat) (hn : cs.length = n) (hb : base ≤ g) (hm : n ≤ 9223372036854775807) :
    w.ownsRow base e 1 (.slice (some ⟨g, 0, none⟩) n n) n cs :=
  ⟨by omega, .inr ⟨_, n, _, rfl, hb, h, Nat.le_refl _, by simp only [maxLen]; omega, by simp [hn], by simp [← hn]⟩⟩
theorem heap_alloc_at (w : World) (o : Obj) (k : Nat) (h : k = w.heap.size) : (w.alloc o).heap[k]? = some o := by rw [h]; exact heap_alloc_new w o
theorem heap_alloc_lt (w : World) (o : Obj) (k : Nat) (h : k < w.heap.size) : (w.alloc o).heap[k]? = w.heap[k]? := Below.heap_alloc w o k h

theorem own_lit {w : World} (cs : List Value) (e : TypeId) (n : Nat) (hn : cs.length = n) (hm : n ≤ 9223372036854775807) :
    (w.alloc (.cells cs.toArray e)).ownsRow w.heap.size e 1 (.slice (some ⟨w.heap.size, 0, none⟩) n n) n cs :=
  ⟨by omega, .inr ⟨_, n, _, rfl, Nat.le_refl _, heap_alloc_new w _, Nat.le_refl _, by simp only [maxLen]; omega, by simp [hn], by simp [← hn]⟩⟩

theorem own_made (w : World) (z : Value) (e : TypeId) (m : Nat) (hm : m ≤ 9223372036854775807) :
    (w.alloc (.cells (madeCells #[z] m) e)).ownsRow w.heap.size e 1 (.slice (some ⟨w.heap.size, 0, none⟩) m m) m (List.replicate m z) := by
  have hs : (madeCells #[z] m).size = m := by rw [← Array.length_toList, toList_madeCells_one]; simp
  exact ⟨by simp, .inr ⟨_, m, _, rfl, Nat.le_refl _, heap_alloc_new w _, Nat.le_refl _, by simp only [maxLen]; omega, by omega, by rw [toList_madeCells_one]; simp⟩⟩

/-- An element is stored. -/
theorem own_set {w : World} {base : Nat} {e : TypeId} {g n cap : Nat} {xs : List Value} (h : w.ownsRow base e 1 (.slice (some ⟨g, 0, none⟩) n cap) n xs) (j : Nat) (u : Value) :
    (w.setCell ⟨g, j, none⟩ u).ownsRow base e 1 (.slice (some ⟨g, 0, none⟩) n cap) n (xs.set j u) := (h.stored j u).1

theorem own_not_block {w : World} {base : Nat} {e : TypeId} {size n : Nat} {v : Value} {xs : List Value} (h : w.ownsRow base e size v n xs) {b : Nat} {c : Array Value} {t : TypeId} {f : Nat × Nat} (hb : w.heap[b]? = some (.cells c t f)) (ht : t ≠ e) : some b ≠ v.ownBlock := by
  rcases h.2 with ⟨rfl, _⟩ | ⟨g, cap, cur, rfl, _, hh, _⟩
  · simp [Value.ownBlock]
  · intro hk
    have : b = g := by simpa [Value.ownBlock] using hk
    subst this
    rw [hb] at hh
    injection hh with hh
    injection hh with _ hh
    exact ht hh
/-- Rows of different element types lie in different blocks. -/
theorem own_type_ne {w : World} {b b' : Nat} {e e' : TypeId} {s s' n n' : Nat} {v v' : Value} {xs xs' : List Value} (h : w.ownsRow b e s v n xs) (h' : w.ownsRow b' e' s' v' n' xs') (hne : e ≠ e') : v.ownBlock = none ∨ v.ownBlock ≠ v'.ownBlock := by
  rcases h.2 with ⟨rfl, _⟩ | ⟨g, cap, cur, rfl, _, hh, _⟩
  · exact .inl rfl
  · exact .inr (own_not_block h' hh hne)
theorem own_not_map {w : World} {base : Nat} {e : TypeId} {size n : Nat} {v : Value} {xs : List Value} (h : w.ownsRow base e size v n xs) {r : Nat} (hr : ∀ c t f, w.heap[r]? ≠ some (.cells c t f)) : some r ≠ v.ownBlock := by
  rcases h.2 with ⟨rfl, _⟩ | ⟨g, cap, cur, rfl, _, hh, _⟩
  · simp [Value.ownBlock]
  · intro hk
    have : r = g := by simpa [Value.ownBlock] using hk
    subst this
    exact hr _ _ _ hh

/-- An owned row while another block is written. -/
theorem own_other {w : World} {base : Nat} {e : TypeId} {size n : Nat} {v : Value} {xs : List Value} (h : w.ownsRow base e size v n xs) (a : Addr) (u : Value) (hne : ∀ g, v.ownBlock = some g → g ≠ a.block) : (w.setCell a u).ownsRow base e size v n xs := by
  refine ⟨h.1, ?_⟩
  rcases h.2 with h | ⟨g, cap, cur, rfl, h2, h3, h4⟩
  · exact .inl h
  · exact .inr ⟨g, cap, cur, rfl, h2, by rw [Below.heap_setCell _ _ _ _ (hne g rfl)]; exact h3, h4⟩

/-! ### Below -/
theorem below_then {B B' : Nat} {a b c : World} (h : Below B a b) (k : Below B' b c) (hB : B ≤ B') : Below B a c := h.trans (k.mono hB)
theorem below_alloc {B : Nat} {a w : World} (h : Below B a w) (hB : B ≤ w.heap.size) (o : Obj) : Below B a (w.alloc o) := h.alloc hB o
theorem below_new (w : World) (o : Obj) : Below w.heap.size w (w.alloc o) := (Below.refl _ _).alloc (Nat.le_refl _) o
theorem below_drawn {B : Nat} {a w : World} (h : Below B a w) (n : Nat) : Below B a (w.drewN n) := ⟨h.os, h.tape, h.output, h.size, h.block⟩

/-! ### slices of whole numbers that are read -/
/-- From address A on lie these numbers. -/
def RI (w : World) (k : IntKind) (A : Option Addr) (xs : List Int) : Prop :=
  xs.length ≤ 9223372036854775807 ∧ (0 < xs.length → ∃ b o, A = some ⟨b, o, none⟩ ∧ b < w.heap.size ∧ ∀ j x, xs[j]? = some x → w.cell? ⟨b, o + j, none⟩ = some (.int k x))

theorem RI.nil (w : World) (k : IntKind) (A : Option Addr) : RI w k A [] := ⟨by simp, fun h => absurd h (by simp)⟩

theorem RI.at_ {w : World} {k : IntKind} {A : Option Addr} {xs : List Int} (h : RI w k A xs) {j : Nat} (hj : j < xs.length) :
    ∃ b o x, A = some ⟨b, o, none⟩ ∧ xs[j]? = some x ∧ w.cell? ⟨b, o + j, none⟩ = some (.int k x) := by
  obtain ⟨b, o, hA, _, hc⟩ := h.2 (by omega)
  exact ⟨b, o, xs[j], hA, List.getElem?_eq_getElem hj, hc j _ (List.getElem?_eq_getElem hj)⟩

theorem RI.below {w w' : World} {k : IntKind} {A : Option Addr} {xs : List Int} {B : Nat} (h : RI w k A xs) (hb : Below B w w') (hB : w.heap.size ≤ B) : RI w' k A xs :=
  ⟨h.1, fun hp => by
    obtain ⟨b, o, hA, hlt, hc⟩ := h.2 hp
    exact ⟨b, o, hA, Nat.lt_of_lt_of_le hlt hb.size, fun j x hx => by rw [hb.cell (show b < B by omega)]; exact hc j x hx⟩⟩

theorem own_ri {w : World} {base : Nat} {e : TypeId} {k : IntKind} {n : Nat} {v : Value} {xs : List Int} (h : w.ownsRow base e 1 v n (xs.map (Value.int k))) :
    ∃ A c, v = .slice A xs.length c ∧ xs.length ≤ c ∧ xs.length = n ∧ RI w k A xs := by
  have hl : xs.length = n := by have := h.1; simp at this; exact this
  subst hl
  obtain ⟨A, c, rfl, h1, h2⟩ := own_slice h
  refine ⟨A, c, rfl, h1, rfl, h2, fun hp => ?_⟩
  obtain ⟨g, cap, hv, hg, _⟩ := own_form h hp
  simp only [Value.slice.injEq] at hv
  obtain ⟨rfl, _, rfl⟩ := hv
  refine ⟨g, 0, rfl, hg, fun j x hx => ?_⟩
  rw [Nat.zero_add, h.cellAt j (by rw [Nat.mul_one]; exact (List.getElem?_eq_some_iff.1 hx).1)]
  simp [hx]

theorem ri_block {w : World} {g : Nat} {k : IntKind} {xs : List Int} {e : TypeId} {f : Nat × Nat} (h : w.heap[g]? = some (.cells (xs.map (Value.int k)).toArray e f)) (hm : xs.length ≤ 9223372036854775807) : RI w k (some ⟨g, 0, none⟩) xs :=
  ⟨hm, fun _ => ⟨g, 0, rfl, (Array.getElem?_eq_some_iff.1 h).1, fun j x hx => by simp [World.cell?, h, hx]⟩⟩

/-- A part of what is read. -/
theorem RI.drop {w : World} {k : IntKind} {b o : Nat} {xs : List Int} (h : RI w k (some ⟨b, o, none⟩) xs) (j : Nat) : RI w k (some ⟨b, o + j, none⟩) (xs.drop j) := by
  refine ⟨by have := h.1; simp; omega, fun hp => ?_⟩
  simp at hp
  obtain ⟨b', o', hA, hlt, hc⟩ := h.2 (by omega)
  simp only [Option.some.injEq, Addr.mk.injEq, and_true] at hA
  obtain ⟨rfl, rfl⟩ := hA
  refine ⟨b, o + j, rfl, hlt, fun i x hx => ?_⟩
  rw [Nat.add_assoc]
  exact hc (j + i) x (by simpa using hx)
theorem RI.take {w : World} {k : IntKind} {A : Option Addr} {xs : List Int} (h : RI w k A xs) (j : Nat) : RI w k A (xs.take j) := by
  refine ⟨by have := h.1; simp; omega, fun hp => ?_⟩
  simp at hp
  obtain ⟨b, o, hA, hlt, hc⟩ := h.2 (by omega)
  refine ⟨b, o, hA, hlt, fun i x hx => hc i x ?_⟩
  rw [List.getElem?_take] at hx
  split at hx
  · exact hx
  · cases hx

/-- What is read, as the cells that 'appendN' asks. -/
theorem RI.cells {w : World} {k : IntKind} {A : Option Addr} {xs : List Int} (h : RI w k A xs) : 0 < (xs.map (Value.int k)).length → ∃ b o, A = some ⟨b, o, none⟩ ∧ ∀ j u, (xs.map (Value.int k))[j]? = some u → w.cell? ⟨b, o + j, none⟩ = some u := by
  intro hp
  obtain ⟨b, o, hA, _, hc⟩ := h.2 (by simpa using hp)
  refine ⟨b, o, hA, fun j u hu => ?_⟩
  rw [List.getElem?_map] at hu
  obtain ⟨x, hx, rfl⟩ := Option.map_eq_some_iff.1 hu
  exact hc j x hx

/-! ### slices of slices of whole numbers that are read -/
def RII (w : World) (k : IntKind) (A : Option Addr) (xss : List (List Int)) : Prop :=
  xss.length ≤ 9223372036854775807 ∧ (0 < xss.length → ∃ b o, A = some ⟨b, o, none⟩ ∧ b < w.heap.size ∧ ∀ j xs, xss[j]? = some xs → ∃ A' c, w.cell? ⟨b, o + j, none⟩ = some (.slice A' xs.length c) ∧ xs.length ≤ c ∧ RI w k A' xs)

theorem RII.nil (w : World) (k : IntKind) (A : Option Addr) : RII w k A [] := ⟨by simp, fun h => absurd h (by simp)⟩

theorem RII.at_ {w : World} {k : IntKind} {A : Option Addr} {xss : List (List Int)} (h : RII w k A xss) {j : Nat} (hj : j < xss.length) :
    ∃ b o xs A' c, A = some ⟨b, o, none⟩ ∧ xss[j]? = some xs ∧ w.cell? ⟨b, o + j, none⟩ = some (.slice A' xs.length c) ∧ xs.length ≤ c ∧ RI w k A' xs := by
  obtain ⟨b, o, hA, _, hc⟩ := h.2 (by omega)
  obtain ⟨A', c, h1, h2, h3⟩ := hc j _ (List.getElem?_eq_getElem hj)
  exact ⟨b, o, xss[j], A', c, hA, List.getElem?_eq_getElem hj, h1, h2, h3⟩

theorem RII.below {w w' : World} {k : IntKind} {A : Option Addr} {xss : List (List Int)} {B : Nat} (h : RII w k A xss) (hb : Below B w w') (hB : w.heap.size ≤ B) : RII w' k A xss :=
  ⟨h.1, fun hp => by
    obtain ⟨b, o, hA, hlt, hc⟩ := h.2 hp
    refine ⟨b, o, hA, Nat.lt_of_lt_of_le hlt hb.size, fun j x hx => ?_⟩
    obtain ⟨A', c, h1, h2, h3⟩ := hc j x hx
    exact ⟨A', c, by rw [hb.cell (show b < B by omega)]; exact h1, h2, h3.below hb hB⟩⟩

theorem own_convert {P : Program} {w : World} {base n : Nat} {e' src dst e : TypeId} {v : Value} {xs : List Int} (hs : P.underlying src = some (.slice e)) (he : P.underlying e = some (.int .u8)) (hd : P.underlying dst = some .string)
    (h : w.ownsRow base e' 1 v n (xs.map (Value.int .u8))) : (convert src dst v).run P w = .ok (.string (strOfNums xs)) w := by
  have hl : xs.length = n := by have := h.1; simp at this; exact this
  rcases h.2 with ⟨rfl, rfl⟩ | ⟨g, cap, cur, rfl, _⟩
  · obtain rfl : xs = [] := List.eq_nil_of_length_eq_zero hl
    exact run_convert_bytes_nil w src e hs he 0 0 dst hd
  · refine run_convert_bytes_arg w src e hs he g 0 n cap xs hl (fun i hi => ?_) dst hd
    rw [Nat.zero_add, h.cellAt i (by omega)]
    simp [List.getElem?_eq_getElem (show i < xs.length by omega)]

/-! ### append(v, y): the goal's world is 'W.alloc' of the box of y -/
section
variable {P : Program} {ops : Array Oper} {rest : List Oper} {o : Oper} {a : Act} {Q : Exit → Act → World → Prop}

theorem append1 {w0 W : World} (base : Nat) (hgd : o.guard = none) (s x : Operand) (t e : TypeId) (z : Value) (bytes : Nat)
    (ho : o.op = .call { callee := .builtin .append, args := #[s, x], argTypes := #[t, t] })
    (ht : P.underlying t = some (.slice e)) (hinfo : (P.info? e).map (fun i => (i.zero, i.size, i.bytes)) = some (some z, 1, bytes)) (hz : z.cells.size = 1) (hb0 : 0 < bytes)
    (v : Value) (n : Nat) (xs : List Value) (y : Value) (hs : a.eval s = v) (hx : a.eval x = .slice (some ⟨W.heap.size, 0, none⟩) 1 1) (h1 : y.oneCell' = true)
    (HO : W.ownsRow base e 1 v n xs) (HB : Below base w0 W) (hbase : base ≤ W.heap.size) (hl : (n + 1) * bytes ≤ 140737488355328)
    (h : ∀ v1 w1, w1.ownsRow base e 1 v1 (n + 1) (xs ++ [y]) → Below base w0 w1 → W.grownBy w1 v.ownBlock → (v1.ownBlock = v.ownBlock ∨ ∃ b, v1.ownBlock = some b ∧ W.heap.size ≤ b) → wpList P ops Q rest (a.put o.dst v1) w1) :
    wpList P ops Q (o :: rest) a (W.alloc (.cells #[y] e)) := by
  obtain ⟨i0, hi, hz0, hz1, hz2⟩ := info_parts hinfo
  have hlen : n + 1 ≤ 140737488355328 := Nat.le_trans (Nat.le_mul_of_pos_right _ hb0) hl
  refine wpList_append_own_at (W.alloc (.cells #[y] e)) hgd s x t ho base e i0 z 1 bytes ht hi hz0 hz1 hz2 hz (by omega) v n xs hs (HO.alloc _) ⟨W.heap.size, 0, none⟩ 1 1 [y] hx rfl
    (World.news_of_block (cs := #[y]) (t := e) (fr := (0, 0)) (heap_alloc_new W _)) (by simpa using h1) (by simp only [maxLen]; omega) hl (by simp; omega) ?_
  intro v1 w1 hown hg _ hat
  refine h v1 w1 hown ((HB.alloc hbase _).grown hg (by simp; omega) (fun k hk => (HO.lt k hk).1)) (World.grownBy.trans (World.grownBy_alloc W _ _) hg) ?_
  rcases hat with hat | hat
  · exact .inl hat
  · exact .inr ⟨_, hat, by simp⟩

/-- append(v, src...): whatever slice of one-cell values. -/
theorem appendN {w0 W : World} (base : Nat) (hgd : o.guard = none) (s x : Operand) (t e : TypeId) (z : Value) (bytes : Nat)
    (ho : o.op = .call { callee := .builtin .append, args := #[s, x], argTypes := #[t, t] })
    (ht : P.underlying t = some (.slice e)) (hinfo : (P.info? e).map (fun i => (i.zero, i.size, i.bytes)) = some (some z, 1, bytes)) (hz : z.cells.size = 1) (hb0 : 0 < bytes)
    (v : Value) (n : Nat) (xs : List Value) (A : Option Addr) (c : Nat) (news : List Value) (hs : a.eval s = v) (hx : a.eval x = .slice A news.length c) (h1 : ∀ u ∈ news, u.oneCell' = true)
    (hA0 : A = none → c = 0) (HR : 0 < news.length → ∃ b o, A = some ⟨b, o, none⟩ ∧ ∀ j u, news[j]? = some u → W.cell? ⟨b, o + j, none⟩ = some u)
    (HO : W.ownsRow base e 1 v n xs) (HB : Below base w0 W) (hbase : base ≤ W.heap.size) (hl : (n + news.length) * bytes ≤ 140737488355328)
    (h : ∀ v1 w1, w1.ownsRow base e 1 v1 (n + news.length) (xs ++ news) → Below base w0 w1 → W.grownBy w1 v.ownBlock → (v1.ownBlock = v.ownBlock ∨ ∃ b, v1.ownBlock = some b ∧ W.heap.size ≤ b) → wpList P ops Q rest (a.put o.dst v1) w1) :
    wpList P ops Q (o :: rest) a W := by
  obtain ⟨i0, hi, hz0, hz1, hz2⟩ := info_parts hinfo
  have hlen : n + news.length ≤ 140737488355328 := Nat.le_trans (Nat.le_mul_of_pos_right _ hb0) hl
  cases A with
  | none =>
    have h0 : news = [] := by
      rcases Nat.eq_zero_or_pos news.length with h | h
      · exact List.eq_nil_of_length_eq_zero h
      · obtain ⟨b, o, hA, _⟩ := HR h; cases hA
    subst h0
    obtain rfl := hA0 rfl
    exact wpList_append_own_none hgd s x t ho base e i0 1 ht hi v n xs hs HO hx (h v W (by simpa using HO) HB (World.grownBy.refl _ _) (.inl rfl))
  | some ad =>
    refine wpList_append_own_at W hgd s x t ho base e i0 z 1 bytes ht hi hz0 hz1 hz2 hz (by omega) v n xs hs HO ad news.length c news hx (by simp)
      (fun j u hj => ?_) h1 (by simp only [maxLen]; omega) hl hbase ?_
    · have hp : 0 < news.length := by have := (List.getElem?_eq_some_iff.1 hj).1; omega
      obtain ⟨b, o, hA, hc⟩ := HR hp
      obtain rfl := Option.some.inj hA
      rw [show (⟨b, o, none⟩ : Addr).add j = ⟨b, o + j, none⟩ from by unfold Addr.add; split <;> simp_all]
      exact hc j u hj
    · intro v1 w1 hown hg _ hat
      refine h v1 w1 hown (HB.grown hg hbase (fun k hk => (HO.lt k hk).1)) hg ?_
      rcases hat with hat | hat
      · exact .inl hat
      · exact .inr ⟨_, hat, Nat.le_refl _⟩
end
end Go.Proofs.YtapebbejdgeijaaDoor
