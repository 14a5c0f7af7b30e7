/- The condition of the laws that lay utf8's tables, too: what the walks ask of it. -/
import Derived.Test.YtapebbejdgeijaaDoorEnv
import Derived.Lay
namespace Go.Proofs.YtapebbejdgeijaaDoor
open Go.ChangeShapes Go.WideShapes Go.ChangeAt Go.RowKit Go.Extern.Stop Go.Stop

def laid15 : List (String × DataW Unit) := ("unicode/utf8.acceptRanges", Rows.laid_unicode_utf8_acceptRanges) :: laid13 ++ [("unicode/utf8.first", Rows.laid_unicode_utf8_first)]

theorem LaidVars_sub {P : Program} {W : World} : ∀ {l l' : List (String × DataW Unit)}, l.Sublist l' → ∀ {ps' : List MemPlace}, DataW.LaidVars P W l' ps' → ∃ ps, DataW.LaidVars P W l ps ∧ ps.Sublist ps'
  | _, _, .slnil, _, h => ⟨_, h, List.Sublist.refl _⟩
  | _, _, .cons _ hs, _, h => by
    obtain ⟨g, t, cs, fuel, p, q, _, _, _, _, hr, rfl⟩ := h
    obtain ⟨ps, h1, h2⟩ := LaidVars_sub hs hr
    exact ⟨ps, h1, h2.trans (List.sublist_append_right _ _)⟩
  | _, _, .cons_cons _ hs, _, h => by
    obtain ⟨g, t, cs, fuel, p, q, a1, a2, a3, a4, hr, rfl⟩ := h
    obtain ⟨ps, h1, h2⟩ := LaidVars_sub hs hr
    exact ⟨_, ⟨g, t, cs, fuel, p, ps, a1, a2, a3, a4, h1, rfl⟩, List.Sublist.append (List.Sublist.refl _) h2⟩

theorem laidMet_sub {P : Program} {W : World} {l l' : List (String × DataW Unit)} (hs : l.Sublist l') (h : laidMet P l' W) : laidMet P l W := by
  obtain ⟨ps', hv, hnd, hrows⟩ := h
  obtain ⟨ps, h1, h2⟩ := LaidVars_sub hs hv
  exact ⟨ps, h1, List.Nodup.sublist h2 hnd, fun b off hm => hrows b off (h2.subset hm)⟩

theorem env_of_laid15 {W : World} (h : laidMetH Tryd.prog laid15 W) : ∃ S, Env W.heap.size S W := by
  have e1 : (laid15.filter fun x => x.2.handleName?.isSome) = [("errors.errorType", .iface "internal/reflectlite.rtype" (.agg [.ptr (.lit (.string [101, 114, 114, 111, 114]))]))] := by kernel_rfl
  have e2 : (laid15.filter fun x => x.2.handleName?.isNone) = ("unicode/utf8.acceptRanges", Rows.laid_unicode_utf8_acceptRanges) :: (sents ++ [("unicode/utf8.first", Rows.laid_unicode_utf8_first)]) := by kernel_rfl
  have e3 : (laid13.filter fun x => x.2.handleName?.isSome) = [("errors.errorType", .iface "internal/reflectlite.rtype" (.agg [.ptr (.lit (.string [101, 114, 114, 111, 114]))]))] := by kernel_rfl
  have e4 : (laid13.filter fun x => x.2.handleName?.isNone) = sents := by kernel_rfl
  refine env_of_laid ?_
  unfold laidMetH at h ⊢
  rw [e1, e2] at h
  rw [e3, e4]
  exact ⟨laidMet_sub (.cons _ (List.sublist_append_left _ _)) h.1, h.2⟩

theorem laid15_row : Rows.formsSamesRow.laid = laid15 := by kernel_rfl

/-- The door's world, utf8's pinned table laid. -/
noncomputable def door15 (os : Os) : World := (World.doorLaid Tryd.prog 254 os).layVars Tryd.prog [("unicode/utf8.first", Rows.laid_unicode_utf8_first)]
theorem door15_os (os : Os) : (door15 os).os = os := World.layVars_os _ _ _
def laid14 : List (String × DataW Unit) := ("unicode/utf8.acceptRanges", Rows.laid_unicode_utf8_acceptRanges) :: sents

theorem door_met15 (os : Os) (args : Array Value) : laidMetH Tryd.prog laid15 ((door15 os).forCall (fun _ _ => 0) ⟨#[], args, []⟩).memory := by
  refine laidMetH_of_parts3 (fuel := 8) ?_ (by kernel_rfl) (by kernel_rfl)
  have e2 : (laid15.filter fun x => x.2.handleName?.isNone) = ("unicode/utf8.acceptRanges", Rows.laid_unicode_utf8_acceptRanges) :: (sents ++ [("unicode/utf8.first", Rows.laid_unicode_utf8_first)]) := by kernel_rfl
  rw [e2]
  have e5 : ((("unicode/utf8.acceptRanges", Rows.laid_unicode_utf8_acceptRanges) :: (sents ++ [("unicode/utf8.first", Rows.laid_unicode_utf8_first)])).filter fun x => ["unicode/utf8.first"].contains x.1) = [("unicode/utf8.first", Rows.laid_unicode_utf8_first)] := by kernel_rfl
  have e6 : ((("unicode/utf8.acceptRanges", Rows.laid_unicode_utf8_acceptRanges) :: (sents ++ [("unicode/utf8.first", Rows.laid_unicode_utf8_first)])).filter fun x => !["unicode/utf8.first"].contains x.1) = laid14 := by kernel_rfl
  refine laidMet_layVars (w0 := World.doorLaid Tryd.prog 254 os) ["unicode/utf8.first"] ((List.range (World.doorLaid Tryd.prog 254 os).heap.size).filter fun k => Tryd.prog.globalNamed "unicode/utf8.first" != some k) ?_ ?_ ?_ ?_
  · rw [e5]
    simp [World.memory, World.forCall, Input.heap]
    rfl
  · rw [e5]
    kernel_rfl
  · rw [e5]
    kernel_rfl
  · rw [e6]
    exact LaidIn.of_run _ 8 (by kernel_rfl) (by kernel_rfl) (by kernel_rfl) (by kernel_rfl)
end Go.Proofs.YtapebbejdgeijaaDoor
