/- graph.Path. -/
import Derived.Test.YtapebbejdgeijaaDoorGrO
import Derived.Test.YtapebbejdgeijaaDoorGrM
namespace Go.Proofs.YtapebbejdgeijaaDoor
open Go.RowKit Go.Extern.Stop Go.Stop Go.Extern Go.Deep Tar

/-- Why there is no way to tell. -/
def pathBad (gs : List (List Int)) (a b : Int) : Option (Int × Int) :=
  match graphBad gs with
  | some e => some e
  | none => if a < 0 ∨ (gs.length : Int) ≤ a then some (1, 3) else if b < 0 ∨ (gs.length : Int) ≤ b then some (2, 3) else none
def GPathPost (w : World) (g : Nat → List Nat) (a b : Nat) (e : Ending) (w' : World) : Prop :=
  ∃ v, e = .returned (.tuple #[v, .nilIface]) ∧ Below w.heap.size w w' ∧ ((¬ Tar.Reach (Arr g) a b ∧ v = .slice none 0 0) ∨ ∃ l, Lex g b a l ∧ l.length ≤ 8193 ∧ w'.ownsRow w.heap.size 3 1 v l.length (l.map iV))

set_option maxRecDepth 100000 in
theorem gPath_ok (B : Nat) (S : Nat → Addr) (w : World) (hE : Env B S w) (A : Option Addr) (n c : Nat) (gs : List (List Int)) (hr : RII w .i64 A gs) (hn : n = gs.length) (hb : graphBad gs = none) (hl : ∀ xs ∈ gs, xs.length ≤ 17592186043904) (a b : Nat) (ha : a < n) (hbn : b < n) :
    Calls Tryd.prog 36 #[.slice A n c, .int .i64 a, .int .i64 b] w (GPathPost w (natG gs) a b) := by
  have hg : GrAt w A gs := ⟨hr, GOk.of_bad hb⟩
  have hn8 : n ≤ 8192 := by rw [hn]; exact (graphOk hb).1
  have HG := hid hg
  have HR := hid hr
  have HN := hid hn
  have HBAD := hid hb
  have HL := hid hl
  have HE := hid hE
  clear hg hr hn hb hl hE
  go_enter Tryd.func36, Tryd.ntmps36
  go_wp2_with fail
  refine (gCheck_calls B S w HE.out A n c gs HN.out HR.out HL.out).mono ?_
  rintro e w1 ⟨hb1, h⟩
  rw [show graphBad gs = none from HBAD.out] at h
  obtain rfl := h
  have HB1 := hid hb1
  have HG1 := hid (HG.out.below hb1)
  clear hb1
  go_wp2_with fail
  refine (gFirst_calls w1 A n c gs HG1.out HN.out a b ha hbn).mono ?_
  rintro e w2 ⟨v, rfl, hb2, hv⟩
  have HB2 := hid (below_then HB1.out hb2 HB1.out.size)
  have HV : Hid ((¬ Tar.Reach (Arr (natG gs)) a b ∧ v = .slice none 0 0) ∨ ∃ l, Lex (natG gs) b a l ∧ l.length ≤ 8193 ∧ w2.ownsRow w.heap.size 3 1 v l.length (l.map iV)) := by
    rcases hv with h | ⟨l, h1, h2, h3⟩
    · exact .inl h
    · exact .inr ⟨l, h1, h2, own_base h3 HB1.out.size⟩
  clear hv hb2
  go_wp2_with fail
  go_ret2
  exact ⟨v, rfl, HB2.out, HV.out⟩

set_option maxRecDepth 100000 in
theorem gPath_check (B : Nat) (S : Nat → Addr) (w : World) (hE : Env B S w) (A : Option Addr) (n c : Nat) (gs : List (List Int)) (hr : RII w .i64 A gs) (hn : n = gs.length) (i x : Int) (hb : graphBad gs = some (i, x)) (hl : ∀ xs ∈ gs, xs.length ≤ 17592186043904) (a b : Int) :
    Calls Tryd.prog 36 #[.slice A n c, .int .i64 a, .int .i64 b] w (GBadPost S i x w) := by
  have HR := hid hr
  have HN := hid hn
  have HBAD := hid hb
  have HL := hid hl
  have HE := hid hE
  clear hr hn hb hl hE
  go_enter Tryd.func36, Tryd.ntmps36
  go_wp2_with fail
  refine (gCheck_calls B S w HE.out A n c gs HN.out HR.out HL.out).mono ?_
  rintro e w1 ⟨hb1, h⟩
  rw [show graphBad gs = some (i, x) from HBAD.out] at h
  obtain ⟨v, rfl, hch⟩ := h
  obtain ⟨t, a', rfl⟩ := hch.form
  have HCH := hid hch
  have HB1 := hid hb1
  clear hch hb1
  go_wp2_with fail
  go_ret2
  exact ⟨HB1.out, _, rfl, HCH.out⟩
end Go.Proofs.YtapebbejdgeijaaDoor
