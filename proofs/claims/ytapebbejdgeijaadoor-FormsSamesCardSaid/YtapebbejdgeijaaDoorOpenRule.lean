/- A rule, as it came in. -/
import Derived.Test.YtapebbejdgeijaaDoorEnv
namespace Go.Proofs.YtapebbejdgeijaaDoor
open Go.ChangeShapes Go.WideShapes Go.ChangeAt Go.RowKit Go.Extern.Stop Go.Stop

set_option maxRecDepth 100000 in
theorem rule_of_cells {W : World} {cs : List Value} (hl : cs.length = 3) {H : Type} {enc : TypeId × Value → H} {d : DataW H} {fuel : Nat} {p : List MemPlace}
    (h : DataW.trod enc Tryd.prog W 0 (fun _ => true) true fuel 57 cs = some (d, p)) :
    ∃ (K R : Int) (A : Option Addr) (m c : Nat) (T : List Int), cs = [.int .i64 K, .int .i64 R, .slice A m c] ∧ m = T.length ∧ RI W .i64 A T ∧ (A = none → c = 0) ∧ ∀ x ∈ T, (Lit.int .i64 x).wf = true := by
  have c1 : Tryd.prog.cellsOf 3 = 1 := by kernel_rfl
  have cs1 : Tryd.prog.cellsOf 22 = 1 := by kernel_rfl
  obtain ⟨xs, n2, _, _, _, hxl, hf⟩ := DataW.trod_struct Tryd.underlying57 h
  replace hxl : xs.length = 3 := hxl
  match cs, hl with
  | [v0, v1, v2], _ =>
    have f0 : DataW.trod enc Tryd.prog W 0 (fun _ => true) true n2 3 ((([v0, v1, v2] : List Value).drop 0).take (Tryd.prog.cellsOf 3)) = xs[0]? := hf 0 _ rfl
    have f1 : DataW.trod enc Tryd.prog W 0 (fun _ => true) true n2 3 ((([v0, v1, v2] : List Value).drop 1).take (Tryd.prog.cellsOf 3)) = xs[1]? := hf 1 _ rfl
    have f2 : DataW.trod enc Tryd.prog W 0 (fun _ => true) true n2 22 ((([v0, v1, v2] : List Value).drop 2).take (Tryd.prog.cellsOf 22)) = xs[2]? := hf 2 _ rfl
    rw [c1] at f0 f1
    rw [cs1] at f2
    rw [List.getElem?_eq_getElem (by omega)] at f0 f1 f2
    obtain ⟨k0, e0, _, _⟩ := DataW.trod_int Tryd.underlying3 f0
    obtain ⟨k1, e1, _, _⟩ := DataW.trod_int Tryd.underlying3 f1
    simp at e0 e1
    subst e0 e1
    obtain ⟨A3, m3, c3, rfl⟩ : ∃ A3 m3 c3, v2 = .slice A3 m3 c3 := by
      rcases DataW.trod_slice Tryd.underlying22 f2 with ⟨hcs, _⟩ | ⟨a, len, cap, elems, rest, n', _, hcs, _⟩
      · simp at hcs; exact ⟨_, _, _, hcs⟩
      · simp at hcs; exact ⟨_, _, _, hcs⟩
    have f2' : DataW.trod enc Tryd.prog W 0 (fun _ => true) true n2 22 (Value.slice A3 m3 c3).cells.toList = some (xs[2]'(by omega)) := f2
    obtain ⟨zs, hn, hri, hnil, hw⟩ := ri_of_open Tryd.underlying22 Tryd.underlying3 (by kernel_rfl) f2'
    exact ⟨k0, k1, A3, m3, c3, zs, rfl, hn, hri, hnil, hw⟩

set_option maxRecDepth 100000 in
theorem rule_of_open {W : World} {v : Value} {base : Nat} (hv : Value.okWide Tryd.prog W .any base 57 v) {H : Type} {enc : TypeId × Value → H} {d : DataW H} {fuel : Nat} {p : List MemPlace}
    (h : DataW.trod enc Tryd.prog W 0 (fun _ => true) true fuel 57 v.cells.toList = some (d, p)) :
    ∃ (K R : Int) (A : Option Addr) (m c : Nat) (T : List Int), v = .agg #[.int .i64 K, .int .i64 R, .slice A m c] ∧ m = T.length ∧ RI W .i64 A T ∧ (A = none → c = 0) ∧ ∀ x ∈ T, (Lit.int .i64 x).wf = true := by
  obtain ⟨cs, rfl, hs⟩ := okWide_struct Tryd.underlying57 hv
  have c3 : Tryd.prog.cellsOf 57 = 3 := by kernel_rfl
  rw [c3] at hs
  obtain ⟨K, R, A, m, c, T, e, h1, h2, h3, h4⟩ := rule_of_cells (by simpa using hs) (show DataW.trod enc Tryd.prog W 0 (fun _ => true) true fuel 57 cs.toList = some (d, p) from h)
  obtain ⟨l⟩ := cs
  obtain rfl : l = _ := e
  exact ⟨K, R, A, m, c, T, rfl, h1, h2, h3, h4⟩
end Go.Proofs.YtapebbejdgeijaaDoor
