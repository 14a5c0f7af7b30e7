/- Errors of the program: what the package variables hold; a chain of Faults that ends in one of them; errors.Is, errors.As, edenraw.Is over such a chain. -/
import Derived.Test.YtapebbejdgeijaaDoorProg
import Derived.WalkKit
import Derived.LaidEql
import Derived.Stop.Asserts
import Derived.RowKitTokens
import Derived.Lib.Hide
import Derived.Deep.LoopGhost
import Derived.Deep.QuietTactic
import Derived.BigQuiet
import Derived.Deep.RegionWith
namespace Go.Proofs.YtapebbejdgeijaaDoor
open Go.RowKit Go.Extern.Stop Go.Stop Go.Extern

/-! ### closed facts on internal/reflectlite, at this program's types -/
theorem Tryd.valueOfPP (t : Addr) (w : World) : (ReflectliteValue.unpack (.iface 95 (.pointer (some t)))).run Tryd.prog w
    = .ok (.agg #[.pointer (some ⟨17, 95, none⟩), .pointer (some ⟨w.heap.size, 0, none⟩), .int .u64 150]) (w.alloc (.cells #[.pointer (some t)] 95)) := by kernel_rfl
theorem Tryd.typePP (a : Addr) (w : World) : (ReflectliteValue.methodAny (ReflectliteValue.valueError "reflectlite.Value.Type" 0) (fun t _ _ _ => ReflectliteType.toType t) #[.agg #[.pointer (some ⟨17, 95, none⟩), .pointer (some a), .int .u64 150]]).run Tryd.prog w
    = .ok (.iface 177 (.agg #[.pointer (some ⟨17, 95, none⟩)])) w := by kernel_rfl
theorem Tryd.methodKind (h : Value) (w : World) : (Go.method 384 177 (.agg #[h]) "Kind").run Tryd.prog w = .ok (188, h) w := by kernel_rfl
theorem Tryd.kindPP (w : World) : ((ReflectliteType.abiMethod fun t => (fun a : Nat => Value.int IntKind.u8 (a : Int)) <$> Rtype.kind t) #[.pointer (some ⟨17, 95, none⟩)]).run Tryd.prog w = .ok (.int .u8 22) w := by kernel_rfl
theorem Tryd.kindP (w : World) : ((ReflectliteType.abiMethod fun t => (fun a : Nat => Value.int IntKind.u8 (a : Int)) <$> Rtype.kind t) #[.pointer (some ⟨17, 93, none⟩)]).run Tryd.prog w = .ok (.int .u8 22) w := by kernel_rfl
theorem rlm (z : Sem Value) (f : TypeId → Addr → Nat → Nat → Sem Value) (v : Value) :
    ReflectliteValue.method z f #[v] = (do match ← ReflectliteValue.parts v with | none => z | some (t, a, fl) => f t a fl (fl % 32)) := rfl
theorem Tryd.partsPP (a : Addr) (w : World) : (ReflectliteValue.parts (.agg #[.pointer (some ⟨17, 95, none⟩), .pointer (some a), .int .u64 150])).run Tryd.prog w = .ok (some (95, a, 150)) w := by kernel_rfl
theorem Tryd.isNilPP (a p : Addr) (W : World) (ha : W.cell? a = some (.pointer (some p))) :
    (ReflectliteValue.method (ReflectliteValue.valueError "reflectlite.Value.IsNil" 0) ReflectliteValue.isNil #[.agg #[.pointer (some ⟨17, 95, none⟩), .pointer (some a), .int .u64 150]]).run Tryd.prog W = .ok (.bool false) W := by
  rw [rlm]
  simp only [Sem.run_bind, Tryd.partsPP, Result.andThen]
  simp [ReflectliteValue.isNil, loadVar, isAgg, underlying, Tryd.underlying95, ha, Result.andThen]
theorem Tryd.methodElem (h : Value) (w : World) : (Go.method 384 177 (.agg #[h]) "Elem").run Tryd.prog w = .ok (199, .agg #[h]) w := by kernel_rfl
theorem Tryd.methodImplements (h : Value) (w : World) : (Go.method 384 177 (.agg #[h]) "Implements").run Tryd.prog w = .ok (200, .agg #[h]) w := by kernel_rfl
theorem Tryd.methodAssignableTo (h : Value) (w : World) : (Go.method 384 177 (.agg #[h]) "AssignableTo").run Tryd.prog w = .ok (197, .agg #[h]) w := by kernel_rfl
theorem Tryd.methodComparable (v : Value) (w : World) : (Go.method 384 177 v "Comparable").run Tryd.prog w = .ok (198, v) w := by kernel_rfl
theorem Tryd.methodUnwrap (v : Value) (w : World) : (Go.method 384 93 v "Unwrap").run Tryd.prog w = .ok (192, v) w := by kernel_rfl
theorem Tryd.elemPP (w : World) : (ReflectliteType.method ReflectliteType.elem #[.agg #[.pointer (some ⟨17, 95, none⟩)]]).run Tryd.prog w = .ok (.iface 177 (.agg #[.pointer (some ⟨17, 93, none⟩)])) w := by kernel_rfl
theorem Tryd.implementsP (w : World) : (ReflectliteType.relation "Implements" ReflectliteType.implements_ #[.agg #[.pointer (some ⟨17, 93, none⟩)], .iface 177 (.agg #[.pointer (some ⟨17, 26, none⟩)])]).run Tryd.prog w = .ok (.bool true) w := by kernel_rfl
theorem Tryd.typeOfP (v : Value) (w : World) : (ReflectliteType.typeOf #[.iface 93 v]).run Tryd.prog w = .ok (.iface 177 (.agg #[.pointer (some ⟨17, 93, none⟩)])) w := by kernel_rfl
theorem Tryd.typeOfES (v : Value) (w : World) : (ReflectliteType.typeOf #[.iface 252 v]).run Tryd.prog w = .ok (.iface 177 (.agg #[.pointer (some ⟨17, 252, none⟩)])) w := by kernel_rfl
/-- The model's entry for (rtype).Comparable. -/
def comparableEntry : Array Value → Sem Value := ReflectliteType.method fun t => do Rtype.noPackHeld "Comparable" t; pure (.bool (← typeInfo t).comparable)
theorem Tryd.comparableES (w : World) : (comparableEntry #[.agg #[.pointer (some ⟨17, 252, none⟩)]]).run Tryd.prog w = .ok (.bool true) w := by kernel_rfl
theorem Tryd.assignableP (w : World) : (ReflectliteType.relation "AssignableTo" ReflectliteType.assignableTo #[.agg #[.pointer (some ⟨17, 93, none⟩)], .iface 177 (.agg #[.pointer (some ⟨17, 93, none⟩)])]).run Tryd.prog w = .ok (.bool true) w := by kernel_rfl
theorem Tryd.valueOfP (e : Addr) (w : World) : (ReflectliteValue.unpack (.iface 93 (.pointer (some e)))).run Tryd.prog w
    = .ok (.agg #[.pointer (some ⟨17, 93, none⟩), .pointer (some ⟨w.heap.size, 0, none⟩), .int .u64 150]) (w.alloc (.cells #[.pointer (some e)] 93)) := by kernel_rfl
theorem Tryd.elemOfPP (w : World) : (Rtype.elem? 95).run Tryd.prog w = .ok (some 93) w := by kernel_rfl
theorem Tryd.mkP (p : Addr) (w : World) : (ReflectliteValue.mk 93 p ReflectliteValue.flagAddr).run Tryd.prog w = .ok (.agg #[.pointer (some ⟨17, 93, none⟩), .pointer (some p), .int .u64 406]) w := by kernel_rfl
theorem Tryd.elemVPP (a p : Addr) (W : World) (ha : W.cell? a = some (.pointer (some p))) :
    (ReflectliteValue.method (ReflectliteValue.valueError "reflectlite.Value.Elem" 0) ReflectliteValue.elem #[.agg #[.pointer (some ⟨17, 95, none⟩), .pointer (some a), .int .u64 150]]).run Tryd.prog W
      = .ok (.agg #[.pointer (some ⟨17, 93, none⟩), .pointer (some p), .int .u64 406]) W := by
  rw [rlm]
  simp only [Sem.run_bind, Tryd.partsPP, Result.andThen]
  simp [ReflectliteValue.elem, loadVar, isAgg, underlying, Tryd.underlying95, ha, Result.andThen, Tryd.elemOfPP, Tryd.mkP]
theorem rls (v x : Value) : ReflectliteValue.set #[v, x] = (do
    let (some (dst, a, fl), some (src, b, _)) := (← ReflectliteValue.parts v, ← ReflectliteValue.parts x)
      | unsupported (.noEntry "extern/(internal/reflectlite.Value).Set.zeroValue")
    if fl / ReflectliteValue.flagAddr % 2 == 0 then unsupported (.noEntry "extern/(internal/reflectlite.Value).Set.unaddressable")
    let val ← loadVar src b
    if ← Rtype.directlyAssignable dst src then storeVar dst a val
    else if ← Rtype.implements dst src then
      if (← Rtype.kind src) == 20 then
        match val with
        | .nilIface => unsupported (.noEntry "extern/reflectlite: a nil value of one interface type handed on as a value of another")
        | _ => storeVar dst a val
      else storeVar dst a (.iface src val)
    else panicString ("reflectlite.Set: value of type " ++ (← Rtype.spelt src) ++ " is not assignable to type " ++ (← Rtype.spelt dst))
    pure (.tuple #[])) := rfl
theorem Tryd.partsPa (a : Addr) (w : World) : (ReflectliteValue.parts (.agg #[.pointer (some ⟨17, 93, none⟩), .pointer (some a), .int .u64 406])).run Tryd.prog w = .ok (some (93, a, 406)) w := by kernel_rfl
theorem Tryd.partsP (a : Addr) (w : World) : (ReflectliteValue.parts (.agg #[.pointer (some ⟨17, 93, none⟩), .pointer (some a), .int .u64 150])).run Tryd.prog w = .ok (some (93, a, 150)) w := by kernel_rfl
theorem Tryd.directP (w : World) : (Rtype.directlyAssignable 93 93).run Tryd.prog w = .ok true w := by kernel_rfl
theorem Tryd.setP (ta b e : Addr) (old : Value) (W : World) (hb : W.cell? b = some (.pointer (some e))) (ht : W.cell? ta = some old) (hf : W.frozen? ta = false) :
    (ReflectliteValue.set #[.agg #[.pointer (some ⟨17, 93, none⟩), .pointer (some ta), .int .u64 406], .agg #[.pointer (some ⟨17, 93, none⟩), .pointer (some b), .int .u64 150]]).run Tryd.prog W
      = .ok (.tuple #[]) (W.setCell ta (.pointer (some e))) := by
  rw [rls]
  simp only [Sem.run_bind, Tryd.partsPa, Tryd.partsP, Result.andThen]
  simp [ReflectliteValue.flagAddr, loadVar, isAgg, underlying, Tryd.underlying93, hb, Result.andThen, Tryd.directP, storeVar, Value.cells, storeCells, Addr.add]
  rw [run_store Tryd.prog W ta _ _ (by rfl)]
  simp [ht, hf]

/-! ### closed facts on method sets, comparing -/
theorem Tryd.noIsE (v : Value) (xT : TypeId) (w : World) : (Instr.typeAssert (.iface 252 v) xT 179 true).run Tryd.prog w = .ok (.tuple #[.nilIface, .bool false]) w := run_typeAssert_lacksB Tryd.underlying179 (by kernel_rfl) (by kernel_rfl) v xT w
theorem Tryd.noUnwrapE (v : Value) (xT : TypeId) (w : World) : (Instr.typeAssert (.iface 252 v) xT 182 true).run Tryd.prog w = .ok (.tuple #[.nilIface, .bool false]) w := run_typeAssert_lacksB Tryd.underlying182 (by kernel_rfl) (by kernel_rfl) v xT w
theorem Tryd.noUnwrapsE (v : Value) (xT : TypeId) (w : World) : (Instr.typeAssert (.iface 252 v) xT 184 true).run Tryd.prog w = .ok (.tuple #[.nilIface, .bool false]) w := run_typeAssert_lacksB Tryd.underlying184 (by kernel_rfl) (by kernel_rfl) v xT w
theorem Tryd.noIsF (v : Value) (xT : TypeId) (w : World) : (Instr.typeAssert (.iface 93 v) xT 179 true).run Tryd.prog w = .ok (.tuple #[.nilIface, .bool false]) w := run_typeAssert_lacksB Tryd.underlying179 (by kernel_rfl) (by kernel_rfl) v xT w
theorem Tryd.hasUnwrapF (v : Value) (xT : TypeId) (w : World) : (Instr.typeAssert (.iface 93 v) xT 182 true).run Tryd.prog w = .ok (.tuple #[.iface 93 v, .bool true]) w := run_typeAssert_hasB Tryd.underlying182 (by kernel_rfl) v xT w
theorem Tryd.compES : (Tryd.prog.info? 252).map (·.comparable) = some true := by kernel_rfl
theorem Tryd.sizeES : (Tryd.prog.info? 272).map (·.size) = some 1 := by kernel_rfl
theorem Tryd.compF : (Tryd.prog.info? 93).map (·.comparable) = some true := by kernel_rfl
theorem Tryd.sizeF : (Tryd.prog.info? 97).map (·.size) = some 3 := by kernel_rfl

/-! ### what the package variables hold -/
def rootIx (n : Int) : Nat := if 1 ≤ n ∧ n ≤ 11 then (n - 1).toNat else 11
theorem rootIx_lt (n : Int) : rootIx n < 12 := by unfold rootIx; split <;> omega

structure Env (B : Nat) (S : Nat → Addr) (w : World) : Prop where
  glob : ∀ i, i < 12 → w.cell? ⟨i, 0, none⟩ = some (.iface 252 (.pointer (some (S i))))
  blk : ∀ i, i < 12 → ∃ c t, w.heap[(S i).block]? = some (.cells c t (0, 0))
  inj : ∀ i j, i < 12 → j < 12 → S i = S j → i = j
  et : w.cell? ⟨12, 0, none⟩ = some (.iface 177 (.agg #[.pointer (some ⟨17, 26, none⟩)]))
  lt : ∀ i, i < 12 → (S i).block < B
  ng : 12 ≤ B ∧ 12 < B
  le : B ≤ w.heap.size

theorem Env.below {B B' : Nat} {S : Nat → Addr} {w w' : World} (h : Env B S w) (hb : Below B' w w') (hB : B ≤ B') : Env B S w' where
  glob i hi := by rw [hb.cell (by have := h.ng.1; show i < B'; omega)]; exact h.glob i hi
  blk i hi := by rw [hb.block _ (Nat.lt_of_lt_of_le (h.lt i hi) hB)]; exact h.blk i hi
  inj := h.inj
  et := by rw [hb.cell (by have := h.ng.2; show 12 < B'; omega)]; exact h.et
  lt := h.lt
  ng := h.ng
  le := Nat.le_trans h.le hb.size

theorem Env.below' {B : Nat} {S : Nat → Addr} {w w' : World} (h : Env B S w) (hb : Below w.heap.size w w') : Env B S w' := h.below hb h.le

/-- An error that is told by the packages of a list, from the outermost on, and ends in the package variable number i. -/
def Chain (S : Nat → Addr) (w : World) : Value → Nat → List (ByteArray × Int) → Prop
  | v, i, [] => v = .iface 252 (.pointer (some (S i)))
  | v, i, (op, at_) :: l => ∃ b v', v = .iface 93 (.pointer (some ⟨b, 0, none⟩)) ∧ w.heap[b]? = some (.cells #[.string op, .int .i64 at_, v'] 97 (0, 0)) ∧ Chain S w v' i l

theorem Chain.form {S : Nat → Addr} {w : World} {v : Value} {i : Nat} {l : List (ByteArray × Int)} (h : Chain S w v i l) : ∃ t a, v = .iface t (.pointer (some a)) := by
  cases l with
  | nil => exact ⟨_, _, h⟩
  | cons x l => obtain ⟨b, v', h, _⟩ := h; exact ⟨_, _, h⟩

theorem Chain.below {S : Nat → Addr} {w w' : World} (hb : Below w.heap.size w w') : ∀ {l : List (ByteArray × Int)} {v : Value} {i : Nat}, Chain S w v i l → Chain S w' v i l
  | [], _, _, h => h
  | (_, _) :: _, _, _, ⟨b, v', h1, h2, h3⟩ => ⟨b, v', h1, by rw [hb.block b (Array.getElem?_eq_some_iff.1 h2).1]; exact h2, Chain.below hb h3⟩

theorem cells3 {w : World} {b : Nat} {x y z : Value} {t : TypeId} (h : w.heap[b]? = some (.cells #[x, y, z] t (0, 0))) :
    w.cell? ⟨b, 0, none⟩ = some x ∧ w.cell? ⟨b, 1, none⟩ = some y ∧ w.cell? ⟨b, 2, none⟩ = some z := by simp [World.cell?, h]

/-- (*Fault).Unwrap of one that is not nil. -/
theorem unwrap_calls (b : Nat) (v : Value) (w : World) (h : w.cell? ⟨b, 2, none⟩ = some v) :
    Calls Tryd.prog 192 #[.pointer (some ⟨b, 0, none⟩)] w fun e w' => e = .returned v ∧ w = w' := by
  go_enter Tryd.func192, Tryd.ntmps192
  go_wp2
  go_ret
  exact ⟨rfl, rfl⟩

/-! ### errors.Is: the error that ends in a package variable is that variable -/
theorem is_calls (S : Nat → Addr) (v : Value) (i : Nat) (l : List (ByteArray × Int)) (w : World) (h : Chain S w v i l) :
    Calls Tryd.prog 82 #[v, .iface 252 (.pointer (some (S i))), .bool true] w fun e w' => e = .returned (.bool true) ∧ w = w' := by
  obtain ⟨j, hj, hcmp⟩ := Option.map_eq_some_iff.1 Tryd.compES
  obtain ⟨k, hk, hks⟩ := Option.map_eq_some_iff.1 Tryd.sizeES
  have heq := fun (w : World) (a : Addr) => run_eql_iface_ptr_same (P := Tryd.prog) w a Tryd.underlying26 Tryd.underlying252 hj hcmp hk
  have hty := fun (w : World) (x y : Value) => run_eql_iface_types (P := Tryd.prog) 93 252 x y Tryd.underlying26 (by decide) w
  have nI := Tryd.noIsF
  have uF := Tryd.hasUnwrapF
  have mU := Tryd.methodUnwrap
  clear hj hcmp hk hks
  go_enter Tryd.func82, Tryd.ntmps82
  go_wp2
  go_loopg [0] l.length (fun n u wr => ∃ l, l.length = n ∧ Chain S w u i l ∧ w = wr)
  case atStart => exact ⟨l, rfl, h, rfl⟩
  case round =>
    obtain ⟨l', hl, hc, rfl⟩ := hrel
    cases l' with
    | nil =>
      obtain rfl : u0 = _ := hc
      have HL := Lib.hid hl
      clear hl
      go_wp2
      go_ret
      exact ⟨rfl, rfl⟩
    | cons x l' =>
      obtain ⟨op, at_⟩ := x
      obtain ⟨b, v', rfl, hb, hc'⟩ := hc
      obtain ⟨t, a, rfl⟩ := hc'.form
      have HL := Lib.hid hl
      clear hl
      have hc2 := (cells3 hb).2.2
      have HB := Lib.hid hb
      clear hb
      have HC := Lib.hid hc'
      clear hc'
      go_wp2_with (go_at_call 192; refine (unwrap_calls _ _ _ hc2).mono ?_; rintro e w' ⟨rfl, rfl⟩)
      go_roundg l'.length
      case measure => have := HL.out; simp at this; omega
      case rel => exact ⟨l', rfl, HC.out, rfl⟩
end Go.Proofs.YtapebbejdgeijaaDoor
