/- From the row's condition to what the walks ask of the twelve sentinels and the handle; the witness's world meets the condition. -/
import Derived.Test.YtapebbejdgeijaaDoorErrC
import Derived.Test.YtapebbejdgeijaaDoorRows
import Derived.ProofKit
import Derived.OpenShut
import Derived.ShutString
import Derived.ChangeOld
import Derived.Below
import Derived.JoinedOf
import Derived.LaidLaws
import Derived.LaidHandle
import Derived.LaidMore
import Derived.Stop.Joined
import Derived.Stop.LaidErr
namespace Go.Proofs.YtapebbejdgeijaaDoor
open Go.ChangeShapes Go.WideShapes Go.ChangeAt Go.RowKit Go.Extern.Stop Go.Stop

theorem own_ : ownKnob Tryd.prog.godebug = none := by kernel_rfl
theorem laidOut : laidOutB Tryd.prog = true := by kernel_rfl

def sentNames : List (String × List UInt8) := [("eden/api.BadRule", [98, 97, 100, 32, 114, 117, 108, 101]), ("eden/api.BadWord", [98, 97, 100, 32, 119, 111, 114, 100]), ("eden/api.BadArg", [98, 97, 100, 32, 97, 114, 103, 117, 109, 101, 110, 116]), ("eden/api.TooBig", [116, 111, 111, 32, 98, 105, 103]), ("eden/api.NoBudget", [110, 111, 32, 98, 117, 100, 103, 101, 116]), ("eden/api.BadText", [98, 97, 100, 32, 116, 101, 120, 116]), ("eden/api.BadPatch", [98, 97, 100, 32, 112, 97, 116, 99, 104]), ("eden/api.BadCert", [98, 97, 100, 32, 99, 101, 114, 116, 105, 102, 105, 99, 97, 116, 101]), ("eden/api.NoInverse", [110, 111, 32, 105, 110, 118, 101, 114, 115, 101]), ("eden/api.BadLine", [98, 97, 100, 32, 108, 105, 110, 101]), ("eden/api.BadState", [98, 97, 100, 32, 115, 116, 97, 116, 101]), ("eden/api.Unknown", [117, 110, 107, 110, 111, 119, 110])]
def sentOf (x : String × List UInt8) : String × DataW Unit := (x.1, .iface "*errors.errorString" (.ptr (.agg [.lit (.string x.2)])))
def sents : List (String × DataW Unit) := sentNames.map sentOf
def laid13 : List (String × DataW Unit) := ("errors.errorType", .iface "internal/reflectlite.rtype" (.agg [.ptr (.lit (.string [101, 114, 114, 111, 114]))])) :: sents

theorem Tryd.et_ : Tryd.prog.globalNamed "errors.errorType" = some 12 := by kernel_rfl
theorem Tryd.rt_ : (Tryd.prog.cutTypes.find? (·.1 == "internal/reflectlite.rtype")).map (·.2) = some 177 := by kernel_rfl
theorem Tryd.oneRow_ : ((List.range 284).filter fun t => Tryd.prog.rowNamed t [101, 114, 114, 111, 114]) = [26] := by kernel_rfl
theorem Tryd.size_ : Tryd.prog.types.size = 284 := by kernel_rfl
theorem Tryd.sentG : (List.range 12).all (fun i => Tryd.prog.globalNamed (sentNames.getD i default).1 == some i && (Tryd.prog.globals[i]?).map (·.type) == some 26) = true := by kernel_rfl
theorem Tryd.star : "*" ++ "errors.errorString" = "*errors.errorString" := by decide
theorem Tryd.esOnly (u : TypeId) (h : Tryd.prog.typeName? 3 u = some "*errors.errorString") : u = 252 :=
  typeName_ptr_named (nm := "errors.errorString") (by rw [Tryd.star]; kernel_rfl) (by kernel_rfl) (by decide) u (by rw [Tryd.star]; exact h)
theorem Tryd.cellsES : Tryd.prog.cellsOf 272 = 1 := by kernel_rfl
theorem Tryd.cellsStr : Tryd.prog.cellsOf 9 = 1 := by kernel_rfl

set_option maxRecDepth 100000 in
theorem sents_read {W : World} : ∀ (l : List (String × List UInt8)) (k : Nat) (ps : List MemPlace), DataW.LaidVars Tryd.prog W (l.map sentOf) ps →
    (∀ i x, l[i]? = some x → Tryd.prog.globalNamed x.1 = some (k + i) ∧ (Tryd.prog.globals[k + i]?).map (·.type) = some 26) →
    (∀ b off, MemPlace.cell b off ∈ ps → (∃ c t, W.heap[b]? = some (.cells c t (0, 0))) ∧ ∀ u v, W.cell? ⟨b, off, none⟩ = some (.iface u v) → Value.okWide Tryd.prog W .any 0 u v) →
    ∃ ads : List Addr, ads.length = l.length ∧ (ads.map fun a => MemPlace.cell a.block a.off).Sublist ps ∧ ∀ i a, ads[i]? = some a → W.cell? ⟨k + i, 0, none⟩ = some (.iface 252 (.pointer (some a)))
  | [], k, ps, h, _, _ => ⟨[], rfl, by simp, fun i a h => by simp at h⟩
  | x :: l, k, ps, h, hg, hrows => by
    obtain ⟨g0, t0, cs0, f0, p0, q0, hg0, ht0, hv0, hd0, hr, rfl⟩ := h
    have g := hg 0 x rfl
    obtain rfl := Option.some.inj (g.1.symm.trans hg0)
    obtain rfl := Option.some.inj (g.2.symm.trans ht0)
    obtain ⟨l0⟩ := cs0
    have ok0 : ∀ u v, l0 = [.iface u v] → Value.okWide Tryd.prog W .any 0 u v := fun u v e => by
      subst e
      exact (hrows (k + 0) 0 (by simp [MemPlace.row])).2 u v (by simpa using World.var?_cell hg0 hv0 0)
    obtain ⟨a0, s0, rfl, hc0, hs0, hz0, rfl⟩ := errorString_of_trod Tryd.underlying26 Tryd.esOnly Tryd.underlying252 Tryd.underlying272 rfl rfl Tryd.underlying9 Tryd.cellsES Tryd.cellsStr hd0 ok0
    obtain ⟨ads, h1, h2, h3⟩ := sents_read l (k + 1) q0 hr (fun i y hy => by
      have := hg (i + 1) y (by simpa using hy)
      rw [show k + 1 + i = k + (i + 1) by omega]; exact this) (fun b off hm => hrows b off (List.mem_append_right _ hm))
    refine ⟨a0 :: ads, by simp [h1], ?_, ?_⟩
    · rw [List.map_cons]
      have : (MemPlace.cell a0.block a0.off :: ads.map fun a => MemPlace.cell a.block a.off).Sublist (MemPlace.row a0 1 ++ q0) := by
        simpa [MemPlace.row] using h2
      exact List.Sublist.trans this (by rw [List.append_assoc]; exact List.sublist_append_right _ _)
    · intro i a ha
      cases i with
      | zero =>
        obtain rfl : a0 = a := by simpa using ha
        simpa using World.var?_cell hg0 hv0 0
      | succ i =>
        have := h3 i a (by simpa using ha)
        rw [show k + (i + 1) = k + 1 + i by omega]; exact this

theorem env_of_laid {W : World} (h : laidMetH Tryd.prog laid13 W) : ∃ S, Env W.heap.size S W := by
  have e1 : (laid13.filter fun x => x.2.handleName?.isSome) = [("errors.errorType", .iface "internal/reflectlite.rtype" (.agg [.ptr (.lit (.string [101, 114, 114, 111, 114]))]))] := by kernel_rfl
  have e2 : (laid13.filter fun x => x.2.handleName?.isNone) = sents := by kernel_rfl
  unfold laidMetH at h
  rw [e1, e2] at h
  obtain ⟨⟨ps, hv, hnd, hrows⟩, hh⟩ := h
  obtain ⟨name, u, ty, f1, f2, f3, f4, f5⟩ := hh _ (List.mem_singleton.2 rfl)
  have en : name = [101, 114, 114, 111, 114] := (Option.some.inj f1).symm
  subst en
  obtain rfl := Option.some.inj (Tryd.rt_.symm.trans f2)
  have hm : ty ∈ (List.range 284).filter fun t => Tryd.prog.rowNamed t [101, 114, 114, 111, 114] := List.mem_filter.2 ⟨List.mem_range.2 (by rw [← Tryd.size_]; exact f3), f4⟩
  rw [Tryd.oneRow_] at hm
  obtain rfl := List.mem_singleton.1 hm
  have hty : typeHandle Tryd.prog 26 = .pointer (some ⟨17, 26, none⟩) := by kernel_rfl
  rw [hty] at f5
  have het : W.cell? ⟨12, 0, none⟩ = some (.iface 177 (.agg #[.pointer (some ⟨17, 26, none⟩)])) := by simpa using World.var?_cell Tryd.et_ f5 0
  have hG := Tryd.sentG
  rw [List.all_eq_true] at hG
  obtain ⟨ads, h1, h2, h3⟩ := sents_read sentNames 0 ps hv (fun i x hi => by
    have hlt := (List.getElem?_eq_some_iff.1 hi).1
    have := hG i (List.mem_range.2 hlt)
    rw [Bool.and_eq_true, beq_iff_eq, beq_iff_eq] at this
    rw [List.getD_eq_getElem?_getD, hi] at this
    simpa using this) hrows
  have hl : ads.length = 12 := h1
  have hnd' : (ads.map fun a => MemPlace.cell a.block a.off).Nodup := List.Nodup.sublist h2 hnd
  have hget : ∀ i, i < 12 → ads[i]? = some (ads.getD i default) := fun i hi => by rw [List.getD_eq_getElem?_getD, List.getElem?_eq_getElem (by omega)]; rfl
  have hbl : ∀ i, i < 12 → ∃ c t, W.heap[(ads.getD i default).block]? = some (.cells c t (0, 0)) := fun i hi =>
    (hrows _ _ (h2.subset (List.mem_map.2 ⟨_, List.mem_of_getElem? (hget i hi), rfl⟩))).1
  refine ⟨fun i => ads.getD i default, ?_, hbl, ?_, het, ?_, ⟨?_, World.block_lt_of_cell? W _ het⟩, Nat.le_refl _⟩
  · intro i hi
    have := h3 i _ (hget i hi)
    simpa using this
  · intro i j hi hj e
    refine (List.getElem?_inj (l := ads.map fun a => MemPlace.cell a.block a.off) (by simpa [hl] using hi) hnd').1 ?_
    rw [List.getElem?_map, List.getElem?_map, hget i hi, hget j hj]
    exact congrArg (fun a : Addr => some (MemPlace.cell a.block a.off)) e
  · intro i hi
    obtain ⟨c, t, hc⟩ := hbl i hi
    exact (Array.getElem?_eq_some_iff.1 hc).1
  · have := World.block_lt_of_cell? W _ (h3 11 _ (hget 11 (by omega)))
    have e : 0 + 11 < W.heap.size := this
    omega

/-- The heap that the door's own run leaves meets the condition. -/
theorem door_met (os : Os) (args : Array Value) : laidMetH Tryd.prog laid13 ((World.doorLaid Tryd.prog 254 os).forCall (fun _ _ => 0) ⟨#[], args, []⟩).memory :=
  laidMetH_of_parts3 (fuel := 8) (laidMet_of_run' 8 (by kernel_rfl) (by kernel_rfl)) (by kernel_rfl) (by kernel_rfl)

/-- A slice of integers that came in. -/
theorem ri_of_open {W : World} {k : IntKind} {t e : TypeId} {A : Option Addr} {n c : Nat} {H : Type} {enc : TypeId × Value → H} {d : DataW H} {fuel : Nat} {p : List MemPlace}
    (ht : Tryd.prog.underlying t = some (.slice e)) (he : Tryd.prog.underlying e = some (.int k)) (hc : Tryd.prog.cellsOf e = 1)
    (h : DataW.trod enc Tryd.prog W 0 (fun _ => true) true fuel t (Value.slice A n c).cells.toList = some (d, p)) :
    ∃ xs : List Int, n = xs.length ∧ RI W k A xs ∧ (A = none → c = 0) ∧ ∀ x ∈ xs, (Lit.int k x).wf = true := by
  rcases open_ints ht he hc h with ⟨hcs, _⟩ | ⟨x, l, cp, zs, hcs, _, hl, hm, hz, _, hcell, hwz⟩
  · simp [Value.cells] at hcs
    obtain ⟨rfl, rfl, rfl⟩ := hcs
    exact ⟨[], rfl, RI.nil _ _ _, fun _ => rfl, by simp⟩
  · simp [Value.cells] at hcs
    obtain ⟨rfl, rfl, rfl⟩ := hcs
    have hzl : zs.length = c := by simpa using hz
    have hml : c ≤ 9223372036854775807 := hm
    refine ⟨zs.take n, by simp; omega, ⟨by simp; omega, fun hp => ?_⟩, fun e => absurd e (by simp), fun y hy => hwz y (List.mem_of_mem_take hy)⟩
    have hpos : 0 < n := by simp at hp; omega
    have h0 := hcell 0 (by omega)
    obtain ⟨b, o, spot⟩ := x
    have hspot : spot = none := by simpa [Addr.add] using World.cell?_spot h0
    subst hspot
    refine ⟨b, o, rfl, World.block_lt_of_cell? W _ h0, fun j y hj => ?_⟩
    rw [List.getElem?_take] at hj
    split at hj
    · have hjl := (List.getElem?_eq_some_iff.1 hj).1
      have := hcell j hjl
      rw [List.getD_eq_getElem?_getD, hj] at this
      have e : (⟨b, o, none⟩ : Addr).add j = ⟨b, o + j, none⟩ := by
        by_cases h0 : j = 0
        · subst h0; simp [Addr.add]
        · simp [Addr.add, h0]
      rw [e] at this
      exact this
    · cases hj
end Go.Proofs.YtapebbejdgeijaaDoor
