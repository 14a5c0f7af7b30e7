/- A slice of slices of whole numbers that came in. -/
import Derived.Test.YtapebbejdgeijaaDoorEnv
import Derived.Deep.Matrix
import Derived.SizedLaws
namespace Go.Proofs.YtapebbejdgeijaaDoor
open Go.RowKit Go.Deep Go.ChangeShapes Go.WideShapes

theorem weightsAll_in {H : Type} {P : Program} {e : TypeId} : ∀ {l : List (DataW H)} {d : DataW H}, d ∈ l → ∀ n ∈ d.weights P e, n ∈ DataW.weightsAll P e l
  | d' :: r, d, hd, n, hn => by
    simp only [DataW.weightsAll, List.mem_append]
    rcases List.mem_cons.1 hd with rfl | h
    · exact Or.inl hn
    · exact Or.inr (weightsAll_in h n hn)
theorem sized_rows {H : Type} {P : Program} {ts : List TypeId} {ds : List (DataW H)} (h : (DataW.weightsEach P ts ds).all (· ≤ reachBytes) = true) {j : Nat} {t e q : TypeId} {elems spare e' sp' : List (DataW H)}
    (ht : ts[j]? = some t) (hd : ds[j]? = some (.slice elems spare)) (hu : P.underlying t = some (.slice e)) (hu2 : P.underlying e = some (.slice q)) (hx : DataW.slice e' sp' ∈ elems) : (e'.length + sp'.length) * P.bytesOf q ≤ reachBytes := by
  refine of_decide_eq_true (List.all_eq_true.1 h _ (DataW.weights_mem_each ht hd _ ?_))
  simp only [DataW.weights, hu, List.mem_cons, List.mem_append]
  exact Or.inr (Or.inl (weightsAll_in hx _ (by simp [DataW.weights, hu2])))
theorem add_spot (b o j : Nat) : (⟨b, o, none⟩ : Addr).add j = ⟨b, o + j, none⟩ := by
  by_cases h0 : j = 0
  · subst h0; simp [Addr.add]
  · simp [Addr.add, h0]

theorem rii_of_open {W : World} {A : Option Addr} {n c : Nat} {H : Type} {enc : TypeId × Value → H} {d : DataW H} {fuel j : Nat} {p : List MemPlace} {ts : List TypeId} {ds : List (DataW H)}
    (h : DataW.trod enc Tryd.prog W 0 (fun _ => true) true fuel 51 (Value.slice A n c).cells.toList = some (d, p))
    (hsz : (DataW.weightsEach Tryd.prog ts ds).all (· ≤ reachBytes) = true) (ht : ts[j]? = some 51) (hd : ds[j]? = some d) :
    ∃ gs : List (List Int), n = gs.length ∧ RII W .i64 A gs ∧ n ≤ 5864062014805 ∧ ∀ xs ∈ gs, xs.length ≤ 17592186043904 := by
  have b24 : Tryd.prog.bytesOf 22 = 24 := by kernel_rfl
  have b8 : Tryd.prog.bytesOf 3 = 8 := by kernel_rfl
  have hrb : reachBytes = 140737488351232 := rfl
  rcases open_int_rows Tryd.underlying51 Tryd.underlying22 Tryd.underlying3 (by kernel_rfl) (by kernel_rfl) h with ⟨hcs, _⟩ | ⟨x, l, cp, AA, LL, CC, ZZ, hcs, _, hl, hm, hx, hrow⟩
  · simp [Value.cells] at hcs
    obtain ⟨rfl, rfl, rfl⟩ := hcs
    exact ⟨[], rfl, RII.nil _ _ _, by omega, by simp⟩
  · simp [Value.cells] at hcs
    obtain ⟨rfl, rfl, rfl⟩ := hcs
    simp only [Prod.mk.injEq] at hx
    have hd' := hd
    rw [hx.1] at hd'
    have hs := sized_slice hsz ht hd' Tryd.underlying51
    rw [b24, hrb] at hs
    simp only [List.length_map, List.length_range] at hs
    have hin : ∀ r, r < n → LL r ≤ 17592186043904 := fun r hr => by
      obtain ⟨_, h1, _, h3, _, h5, _⟩ := hrow r (by omega)
      cases hA : AA r with
      | none => have := h5 hA; omega
      | some a' =>
        have hmem : DataW.slice (lits (H := H) .i64 ((ZZ r).take (LL r))) (lits .i64 ((ZZ r).drop (LL r))) ∈ (List.range n).map fun r => intRow (H := H) .i64 (AA r) (LL r) (ZZ r) := by
          refine List.mem_map.2 ⟨r, List.mem_range.2 hr, ?_⟩
          rw [hA]; rfl
        have hq := sized_rows hsz ht hd' Tryd.underlying51 Tryd.underlying22 hmem
        rw [b8, hrb] at hq
        simp [lits] at hq
        omega
    refine ⟨(List.range n).map fun r => (ZZ r).take (LL r), by simp, ⟨by simp; simp only [maxLen] at hm; omega, fun hp => ?_⟩, by omega, fun xs hxs => ?_⟩
    · have hpos : 0 < n := by simpa using hp
      have h0 := (hrow 0 (by omega)).1
      obtain ⟨b, o, spot⟩ := x
      have hspot : spot = none := by simpa [Addr.add] using World.cell?_spot h0
      subst hspot
      refine ⟨b, o, rfl, World.block_lt_of_cell? W _ h0, fun j xs hj => ?_⟩
      have hjn : j < n := by have := (List.getElem?_eq_some_iff.1 hj).1; simpa using this
      rw [List.getElem?_map, List.getElem?_range hjn] at hj
      obtain rfl := Option.some.inj hj
      obtain ⟨g1, g2, g3, g4, _, g6, g7⟩ := hrow j (by omega)
      rw [add_spot] at g1
      have hlen : ((ZZ j).take (LL j)).length = LL j := by rw [List.length_take]; omega
      refine ⟨AA j, CC j, by rw [hlen]; exact g1, by rw [hlen]; exact g2, by rw [hlen]; simp only [maxLen] at g3; omega, fun hp2 => ?_⟩
      rw [hlen] at hp2
      cases hA : AA j with
      | none => have := g6 hA; omega
      | some a' =>
        obtain ⟨_, g8⟩ := g7 a' hA
        have k0 := g8 0 (by omega)
        obtain ⟨b', o', spot'⟩ := a'
        have hspot' : spot' = none := by simpa [Addr.add] using World.cell?_spot k0
        subst hspot'
        refine ⟨b', o', rfl, World.block_lt_of_cell? W _ k0, fun i y hi => ?_⟩
        have hil := (List.getElem?_eq_some_iff.1 hi).1
        rw [hlen] at hil
        have hc := g8 i (by omega)
        rw [List.getElem?_take, if_pos hil] at hi
        rw [List.getD_eq_getElem?_getD, hi, add_spot] at hc
        exact hc
    · obtain ⟨r, hr, rfl⟩ := List.mem_map.1 hxs
      rw [List.length_take]
      have := hin r (List.mem_range.1 hr)
      omega
end Go.Proofs.YtapebbejdgeijaaDoor
