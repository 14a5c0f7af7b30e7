/- edenraw.Root, fault.New, fault.Under, edenraw.New; edenraw.Is of a chain and the error that tells it. -/
import Derived.Test.YtapebbejdgeijaaDoorErrA
import Derived.Deep.RegionHeld3
namespace Go.Proofs.YtapebbejdgeijaaDoor
open Go.RowKit Go.Extern.Stop Go.Stop Go.Extern

theorem rawRoot_calls (B : Nat) (S : Nat → Addr) (w : World) (hE : Env B S w) (n : Int) :
    Calls Tryd.prog 46 #[.int .i64 n] w fun e w' => e = .returned (.iface 252 (.pointer (some (S (rootIx n))))) ∧ w = w' := by
  have h0 := hE.glob 0 (by omega)
  have h1 := hE.glob 1 (by omega)
  have h2 := hE.glob 2 (by omega)
  have h3 := hE.glob 3 (by omega)
  have h4 := hE.glob 4 (by omega)
  have h5 := hE.glob 5 (by omega)
  have h6 := hE.glob 6 (by omega)
  have h7 := hE.glob 7 (by omega)
  have h8 := hE.glob 8 (by omega)
  have h9 := hE.glob 9 (by omega)
  have h10 := hE.glob 10 (by omega)
  have h11 := hE.glob 11 (by omega)
  clear hE
  rcases (show n = 1 ∨ n = 2 ∨ n = 3 ∨ n = 4 ∨ n = 5 ∨ n = 6 ∨ n = 7 ∨ n = 8 ∨ n = 9 ∨ n = 10 ∨ n = 11 ∨ (n < 1 ∨ 11 < n) by omega) with rfl | rfl | rfl | rfl | rfl | rfl | rfl | rfl | rfl | rfl | rfl | hn
  case inr.inr.inr.inr.inr.inr.inr.inr.inr.inr.inr =>
    have e : rootIx n = 11 := by unfold rootIx; rw [if_neg (by omega)]
    rw [e]
    clear e
    rcases hn with hn | hn
    · go_enter Tryd.func46, Tryd.ntmps46
      go_wp2
      go_ret
      exact ⟨rfl, rfl⟩
    · go_enter Tryd.func46, Tryd.ntmps46
      go_wp2
      go_ret
      exact ⟨rfl, rfl⟩
  all_goals
    go_enter Tryd.func46, Tryd.ntmps46
    go_wp2
    go_ret
    exact ⟨rfl, rfl⟩

/-- What a call that only makes an error leaves. -/
def RetErr (S : Nat → Addr) (i : Nat) (l : List (ByteArray × Int)) (w : World) (e : Ending) (w' : World) : Prop :=
  ∃ v, e = .returned v ∧ Chain S w' v i l ∧ Below w.heap.size w w'

theorem faultNew_calls (B : Nat) (S : Nat → Addr) (w : World) (hE : Env B S w) (op : ByteArray) (at_ n : Int) (hn : (n == 0) = false) :
    Calls Tryd.prog 80 #[.string op, .int .i64 at_, .int .i64 n] w (RetErr S (rootIx n) [(op, at_)] w) := by
  have HE := Lib.hid hE
  clear hE
  go_enter Tryd.func80, Tryd.ntmps80
  go_wp2_with (go_at_call 114; refine (faultRoot_calls B S _ HE.out _).mono ?_; rintro e w' ⟨rfl, rfl⟩)
  go_ret
  exact ⟨_, rfl, ⟨w.heap.size, _, rfl, heap_alloc_new w _, rfl⟩, (Below.refl _ _).alloc (Nat.le_refl _) _⟩

theorem faultUnder_nil (op : ByteArray) (at_ : Int) (w : World) :
    Calls Tryd.prog 95 #[.string op, .int .i64 at_, .nilIface] w fun e w' => e = .returned .nilIface ∧ w = w' := by
  go_enter Tryd.func95, Tryd.ntmps95
  go_wp2
  go_ret
  exact ⟨rfl, rfl⟩

theorem faultUnder_calls (S : Nat → Addr) (w : World) (op : ByteArray) (at_ : Int) (v : Value) (i : Nat) (l : List (ByteArray × Int)) (hc : Chain S w v i l) :
    Calls Tryd.prog 95 #[.string op, .int .i64 at_, v] w (RetErr S i ((op, at_) :: l) w) := by
  obtain ⟨t, a, rfl⟩ := hc.form
  have HC := Lib.hid hc
  clear hc
  go_enter Tryd.func95, Tryd.ntmps95
  go_wp2
  go_ret
  exact ⟨_, rfl, ⟨w.heap.size, _, rfl, heap_alloc_new w _, Chain.below ((Below.refl _ _).alloc (Nat.le_refl _) _) HC.out⟩, (Below.refl _ _).alloc (Nat.le_refl _) _⟩

/-! ### edenraw.Err as a value -/
/-- The value reads as the error of this number, told by these packages and places. -/
def ErrVal (w : World) (base : Nat) (v : Value) (n : Int) (l : List (ByteArray × Int)) : Prop :=
  ∃ a b, v = .agg #[.int .i64 n, a, b] ∧ w.ownsRow base 9 1 a l.length (l.map fun x => .string x.1) ∧ w.ownsRow base 3 1 b l.length (l.map fun x => .int .i64 x.2)

def RetTrue (w : World) (e : Ending) (w' : World) : Prop := e = .returned (.bool true) ∧ Below w.heap.size w w'

theorem rawIs_nil (a b : Value) (w : World) :
    Calls Tryd.prog 14 #[.nilIface, .agg #[.int .i64 0, a, b]] w (RetTrue w) := by
  go_enter Tryd.func14, Tryd.ntmps14
  go_wp2
  go_ret
  exact ⟨rfl, (Below.refl _ _).alloc (Nat.le_refl _) _⟩
end Go.Proofs.YtapebbejdgeijaaDoor
