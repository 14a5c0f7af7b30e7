/- A script of BagPlays, as it came in. -/
import Derived.Test.YtapebbejdgeijaaDoorPlayL
import Derived.Test.YtapebbejdgeijaaDoorEnv
namespace Go.Proofs.YtapebbejdgeijaaDoor
open Go.ChangeShapes Go.WideShapes Go.ChangeAt Go.RowKit Go.Extern.Stop Go.Stop

set_option maxRecDepth 100000 in
theorem script_of_open {W : World} {A : Option Addr} {n c : Nat} {H : Type} {enc : TypeId × Value → H} {d : DataW H} {fuel : Nat} {p : List MemPlace}
    (h : DataW.trod enc Tryd.prog W 0 (fun _ => true) true fuel 43 (Value.slice A n c).cells.toList = some (d, p)) : ScriptAt W A n := by
  have c4 : Tryd.prog.cellsOf 48 = 4 := by kernel_rfl
  have c1 : Tryd.prog.cellsOf 3 = 1 := by kernel_rfl
  have cs1 : Tryd.prog.cellsOf 22 = 1 := by kernel_rfl
  rcases DataW.trod_slice Tryd.underlying43 h with ⟨hcs, _⟩ | ⟨a, len, cap, elems, rest, n', _, hcs, _, _, hl, hm, hlen, hel, _, _⟩
  · simp [Value.cells] at hcs
    obtain ⟨rfl, rfl, rfl⟩ := hcs
    exact ⟨Nat.zero_le _, fun j hj => absurd hj (Nat.not_lt_zero _)⟩
  · simp [Value.cells] at hcs
    obtain ⟨rfl, rfl, rfl⟩ := hcs
    have each : ∀ j, j < n → ∃ cs y, cs.length = 4 ∧ (∀ i, i < 4 → W.cell? ((a.add (j * 4)).add i) = cs[i]?) ∧ DataW.trod enc Tryd.prog W 0 (fun _ => true) true n' 48 cs = some y := by
      intro j hj
      have hE := hel j hj
      rw [List.getElem?_eq_getElem (by omega), Option.bind_eq_some_iff, c4] at hE
      obtain ⟨cs, hcells, hd⟩ := hE
      obtain ⟨_, hl4, hcell⟩ := World.cells?_some hcells
      exact ⟨cs, _, hl4, hcell, hd⟩
    refine ⟨by have : c ≤ 9223372036854775807 := hm; omega, fun j hj => ?_⟩
    have hsp : a.spot = none := by
      obtain ⟨cs, y, h1, h2, _⟩ := each 0 (by omega)
      have h3 := h2 0 (by decide)
      rw [List.getElem?_eq_getElem (by omega)] at h3
      simpa [Addr.add] using World.cell?_spot h3
    obtain ⟨b, o, spot⟩ := a
    obtain rfl : spot = none := hsp
    obtain ⟨cs, y, h1, h2, h3⟩ := each j hj
    have hcell : ∀ i, i < 4 → W.cell? ⟨b, o + j * 4 + i, none⟩ = cs[i]? := fun i hi => by
      have := h2 i hi
      rw [addr_add, addr_add] at this
      exact this
    obtain ⟨xs, n2, _, _, _, hxl, hf⟩ := DataW.trod_struct Tryd.underlying48 h3
    replace hxl : xs.length = 4 := hxl
    match cs, h1 with
    | [v0, v1, v2, v3], _ =>
      have f0 : DataW.trod enc Tryd.prog W 0 (fun _ => true) true n2 3 ((([v0, v1, v2, v3] : List Value).drop 0).take (Tryd.prog.cellsOf 3)) = xs[0]? := hf 0 _ rfl
      have f1 : DataW.trod enc Tryd.prog W 0 (fun _ => true) true n2 3 ((([v0, v1, v2, v3] : List Value).drop 1).take (Tryd.prog.cellsOf 3)) = xs[1]? := hf 1 _ rfl
      have f2 : DataW.trod enc Tryd.prog W 0 (fun _ => true) true n2 3 ((([v0, v1, v2, v3] : List Value).drop 2).take (Tryd.prog.cellsOf 3)) = xs[2]? := hf 2 _ rfl
      have f3 : DataW.trod enc Tryd.prog W 0 (fun _ => true) true n2 22 ((([v0, v1, v2, v3] : List Value).drop 3).take (Tryd.prog.cellsOf 22)) = xs[3]? := hf 3 _ rfl
      rw [c1] at f0 f1 f2
      rw [cs1] at f3
      rw [List.getElem?_eq_getElem (by omega)] at f0 f1 f2 f3
      obtain ⟨k0, e0, _, _⟩ := DataW.trod_int Tryd.underlying3 f0
      obtain ⟨k1, e1, _, _⟩ := DataW.trod_int Tryd.underlying3 f1
      obtain ⟨k2, e2, _, _⟩ := DataW.trod_int Tryd.underlying3 f2
      simp at e0 e1 e2
      subst e0 e1 e2
      obtain ⟨A3, m3, c3, rfl⟩ : ∃ A3 m3 c3, v3 = .slice A3 m3 c3 := by
        rcases DataW.trod_slice Tryd.underlying22 f3 with ⟨hcs, _⟩ | ⟨a, len, cap, elems, rest, n', _, hcs, _⟩
        · simp at hcs; exact ⟨_, _, _, hcs⟩
        · simp at hcs; exact ⟨_, _, _, hcs⟩
      have f3' : DataW.trod enc Tryd.prog W 0 (fun _ => true) true n2 22 (Value.slice A3 m3 c3).cells.toList = some (xs[3]'(by omega)) := f3
      obtain ⟨zs, hn, hri, hnil, _⟩ := ri_of_open Tryd.underlying22 Tryd.underlying3 (by kernel_rfl) f3'
      subst hn
      have g0 : W.cell? ⟨b, o + j * 4, none⟩ = some (.int .i64 k0) := hcell 0 (by decide)
      exact ⟨b, o, ⟨k0, k1, k2, A3, c3, zs⟩, rfl, World.block_lt_of_cell? W _ g0, ⟨hri, hnil⟩, g0, hcell 1 (by decide), hcell 2 (by decide), hcell 3 (by decide)⟩
end Go.Proofs.YtapebbejdgeijaaDoor
