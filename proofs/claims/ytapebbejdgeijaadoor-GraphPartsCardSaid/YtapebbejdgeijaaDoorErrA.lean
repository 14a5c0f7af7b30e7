/- errors.Is and errors.As over a chain of Faults; fault.root, edenraw.Root, fault.New, fault.Under. -/
import Derived.Test.YtapebbejdgeijaaDoorErr
namespace Go.Proofs.YtapebbejdgeijaaDoor
open Go.RowKit Go.Extern.Stop Go.Stop Go.Extern

theorem Is_calls (S : Nat → Addr) (v : Value) (i : Nat) (l : List (ByteArray × Int)) (w : World) (h : Chain S w v i l) :
    Calls Tryd.prog 45 #[v, .iface 252 (.pointer (some (S i)))] w fun e w' => e = .returned (.bool true) ∧ w = w' := by
  have hTO := @run_callFunc_extern Tryd.prog 81 _ ReflectliteType.typeOf Tryd.func81 (by kernel_rfl) (by kernel_rfl) (by kernel_rfl) (by kernel_rfl)
  have hCo := @run_callFunc_extern Tryd.prog 198 _ comparableEntry Tryd.func198 (by kernel_rfl) (by kernel_rfl) (by kernel_rfl) (by kernel_rfl)
  have tT := Tryd.typeOfES
  have cT := Tryd.comparableES
  have mR := Tryd.methodComparable
  obtain ⟨t, a, rfl⟩ := h.form
  have H := Lib.hid h
  clear h
  go_enter Tryd.func45, Tryd.ntmps45
  go_wp2_with (go_at_call 82; refine (is_calls S _ _ _ _ H.out).mono ?_; rintro e w' ⟨rfl, rfl⟩)
  go_ret
  exact ⟨rfl, rfl⟩

set_option maxHeartbeats 4000000 in
/-- errors.As of a Fault at the head: the target is set; four new blocks. -/
theorem As_calls (e t : Addr) (old : Value) (w : World) (hg : w.cell? ⟨12, 0, none⟩ = some (.iface 177 (.agg #[.pointer (some ⟨17, 26, none⟩)]))) (ht0 : w.cell? t = some old) (hf0 : w.frozen? t = false) :
    Calls Tryd.prog 47 #[.iface 93 (.pointer (some e)), .iface 95 (.pointer (some t))] w fun ev w' => ev = .returned (.bool true) ∧ w' = ((((w.alloc (.cells #[.pointer (some t)] 95)).alloc (.cells #[.pointer (some ⟨17, 95, none⟩), .pointer (some ⟨w.heap.size, 0, none⟩), .int .u64 150] 140)).alloc (.cells #[.pointer (some ⟨17, 95, none⟩), .pointer (some ⟨w.heap.size, 0, none⟩), .int .u64 150] 140)).alloc (.cells #[.pointer (some e)] 93)).setCell t (.pointer (some e)) := by
  have h6 := @run_callFunc_extern Tryd.prog 83 _ (fun args => ReflectliteValue.unpack (args.getD 0 (.tuple #[]))) Tryd.func83 (by kernel_rfl) (by kernel_rfl) (by kernel_rfl) (by kernel_rfl)
  have h7 := @run_callFunc_extern Tryd.prog 84 _ (ReflectliteValue.methodAny (ReflectliteValue.valueError "reflectlite.Value.Type" 0) (fun t _ _ _ => ReflectliteType.toType t)) Tryd.func84 (by kernel_rfl) (by kernel_rfl) (by kernel_rfl) (by kernel_rfl)
  have h8 := @run_callFunc_extern Tryd.prog 85 _ (ReflectliteValue.method (ReflectliteValue.valueError "reflectlite.Value.IsNil" 0) ReflectliteValue.isNil) Tryd.func85 (by kernel_rfl) (by kernel_rfl) (by kernel_rfl) (by kernel_rfl)
  have h27 := @run_callFunc_extern Tryd.prog 188 _ (ReflectliteType.abiMethod fun t => do pure (.int .u8 (← Rtype.kind t))) Tryd.func188 (by kernel_rfl) (by kernel_rfl) (by kernel_rfl) (by kernel_rfl)
  have h37 := @run_callFunc_extern Tryd.prog 199 _ (ReflectliteType.method ReflectliteType.elem) Tryd.func199 (by kernel_rfl) (by kernel_rfl) (by kernel_rfl) (by kernel_rfl)
  have h38 := @run_callFunc_extern Tryd.prog 200 _ (ReflectliteType.relation "Implements" ReflectliteType.implements_) Tryd.func200 (by kernel_rfl) (by kernel_rfl) (by kernel_rfl) (by kernel_rfl)
  have h10 := @run_callFunc_extern Tryd.prog 81 _ ReflectliteType.typeOf Tryd.func81 (by kernel_rfl) (by kernel_rfl) (by kernel_rfl) (by kernel_rfl)
  have h35 := @run_callFunc_extern Tryd.prog 197 _ (ReflectliteType.relation "AssignableTo" ReflectliteType.assignableTo) Tryd.func197 (by kernel_rfl) (by kernel_rfl) (by kernel_rfl) (by kernel_rfl)
  have h11 := @run_callFunc_extern Tryd.prog 115 _ (ReflectliteValue.method (ReflectliteValue.valueError "reflectlite.Value.Elem" 0) ReflectliteValue.elem) Tryd.func115 (by kernel_rfl) (by kernel_rfl) (by kernel_rfl) (by kernel_rfl)
  have h12 := @run_callFunc_extern Tryd.prog 116 _ ReflectliteValue.set Tryd.func116 (by kernel_rfl) (by kernel_rfl) (by kernel_rfl) (by kernel_rfl)
  have tO := Tryd.typeOfP
  have mA := Tryd.methodAssignableTo
  have a25 := Tryd.assignableP
  have v25 := Tryd.valueOfP
  have f6 := Tryd.valueOfPP
  have f7 := Tryd.typePP
  have mK := Tryd.methodKind
  have mE := Tryd.methodElem
  have mI := Tryd.methodImplements
  have k27 := Tryd.kindPP
  have k25 := Tryd.kindP
  have e27 := Tryd.elemPP
  have i25 := Tryd.implementsP
  have n8 := Tryd.isNilPP ⟨w.heap.size, 0, none⟩ t ((w.alloc (.cells #[.pointer (some t)] 95)).alloc (.cells #[.pointer (some ⟨17, 95, none⟩), .pointer (some ⟨w.heap.size, 0, none⟩), .int .u64 150] 140)) (by simp)
  have hlt : 12 < w.heap.size := World.block_lt_of_cell? w _ hg
  have hg2 : ((w.alloc (.cells #[.pointer (some t)] 95)).alloc (.cells #[.pointer (some ⟨17, 95, none⟩), .pointer (some ⟨w.heap.size, 0, none⟩), .int .u64 150] 140)).cell? ⟨12, 0, none⟩ = some (.iface 177 (.agg #[.pointer (some ⟨17, 26, none⟩)])) := by
    rw [World.cell?_alloc_lt _ _ ⟨12, 0, none⟩ (by simp; omega), World.cell?_alloc_lt _ _ ⟨12, 0, none⟩ hlt]; exact hg
  have htl : t.block < w.heap.size := World.block_lt_of_cell? w _ ht0
  have el := Tryd.elemVPP ⟨w.heap.size, 0, none⟩ t (((w.alloc (.cells #[.pointer (some t)] 95)).alloc (.cells #[.pointer (some ⟨17, 95, none⟩), .pointer (some ⟨w.heap.size, 0, none⟩), .int .u64 150] 140)).alloc (.cells #[.pointer (some ⟨17, 95, none⟩), .pointer (some ⟨w.heap.size, 0, none⟩), .int .u64 150] 140)) (by rw [World.cell?_alloc_lt _ _ ⟨w.heap.size, 0, none⟩ (by simp; omega)]; simp)
  have st := Tryd.setP t ⟨w.heap.size + 1 + 1 + 1, 0, none⟩ e old ((((w.alloc (.cells #[.pointer (some t)] 95)).alloc (.cells #[.pointer (some ⟨17, 95, none⟩), .pointer (some ⟨w.heap.size, 0, none⟩), .int .u64 150] 140)).alloc (.cells #[.pointer (some ⟨17, 95, none⟩), .pointer (some ⟨w.heap.size, 0, none⟩), .int .u64 150] 140)).alloc (.cells #[.pointer (some e)] 93))
    (by rw [World.cell?_alloc_at _ _ _ _ (by simp)]; rfl)
    (by rw [World.cell?_alloc_lt _ _ t (by simp; omega), World.cell?_alloc_lt _ _ t (by simp; omega), World.cell?_alloc_lt _ _ t (by simp; omega), World.cell?_alloc_lt _ _ t htl]; exact ht0)
    (by rw [World.frozen?_alloc_old _ _ t (by simp; omega), World.frozen?_alloc_old _ _ t (by simp; omega), World.frozen?_alloc_old _ _ t (by simp; omega), World.frozen?_alloc_old _ _ t (Nat.ne_of_lt htl)]; exact hf0)
  have HH := Lib.hid hlt
  clear hlt htl
  go_enter Tryd.func47, Tryd.ntmps47
  go_wp2
  refine wp_loop_rounds 1 ?_
  rw [rounds_succ]
  go_wp2
  go_ret
  exact ⟨rfl, rfl⟩

/-! ### the error of a number -/
theorem faultRoot_calls (B : Nat) (S : Nat → Addr) (w : World) (hE : Env B S w) (n : Int) :
    Calls Tryd.prog 114 #[.int .i64 n] w fun e w' => e = .returned (.iface 252 (.pointer (some (S (rootIx n))))) ∧ w = w' := by
  have h0 := hE.glob 0 (by omega)
  have h1 := hE.glob 1 (by omega)
  have h2 := hE.glob 2 (by omega)
  have h3 := hE.glob 3 (by omega)
  have h4 := hE.glob 4 (by omega)
  have h5 := hE.glob 5 (by omega)
  have h6 := hE.glob 6 (by omega)
  have h7 := hE.glob 7 (by omega)
  have h8 := hE.glob 8 (by omega)
  have h9 := hE.glob 9 (by omega)
  have h10 := hE.glob 10 (by omega)
  have h11 := hE.glob 11 (by omega)
  clear hE
  rcases (show n = 1 ∨ n = 2 ∨ n = 3 ∨ n = 4 ∨ n = 5 ∨ n = 6 ∨ n = 7 ∨ n = 8 ∨ n = 9 ∨ n = 10 ∨ n = 11 ∨ (n < 1 ∨ 11 < n) by omega) with rfl | rfl | rfl | rfl | rfl | rfl | rfl | rfl | rfl | rfl | rfl | hn
  case inr.inr.inr.inr.inr.inr.inr.inr.inr.inr.inr =>
    have e : rootIx n = 11 := by unfold rootIx; rw [if_neg (by omega)]
    rw [e]
    clear e
    rcases hn with hn | hn
    · go_enter Tryd.func114, Tryd.ntmps114
      go_wp2
      go_ret
      exact ⟨rfl, rfl⟩
    · go_enter Tryd.func114, Tryd.ntmps114
      go_wp2
      go_ret
      exact ⟨rfl, rfl⟩
  all_goals
    go_enter Tryd.func114, Tryd.ntmps114
    go_wp2
    go_ret
    exact ⟨rfl, rfl⟩
end Go.Proofs.YtapebbejdgeijaaDoor
