/- edenraw.Is of a chain and the error that tells it: true. -/
import Derived.Test.YtapebbejdgeijaaDoorErrB
import Derived.Test.YtapebbejdgeijaaDoorBase
import Derived.Test.YtapebbejdgeijaaDoorSeg
namespace Go.Proofs.YtapebbejdgeijaaDoor
open Go.RowKit Go.Extern.Stop Go.Stop Go.Extern

theorem run_neq_iface_ptr_same {P : Program} (w : World) {ti tp te : TypeId} {ms : Array (String × TypeId)} {i j : TypeInfo} (a : Addr)
    (hi : P.underlying ti = some (.interface ms)) (hp : P.underlying tp = some (.pointer te)) (hinfo : P.info? tp = some i) (hcomp : i.comparable = true) (hte : P.info? te = some j) :
    (binOp .neq ti (.iface tp (.pointer (some a))) (.iface tp (.pointer (some a)))).run P w = .ok (.bool false) w := by
  simp only [binOp]
  simp [Op.equal, Op.maxDepth, run_equalIn_iface_ptr_same w 9998 a hi hp hinfo hcomp hte]

/-- errors.As of a Fault at the head: the target is set; all other cells are as they were. -/
theorem As_kept (e t : Addr) (old : Value) (w : World) (hg : w.cell? ⟨12, 0, none⟩ = some (.iface 177 (.agg #[.pointer (some ⟨17, 26, none⟩)]))) (ht0 : w.cell? t = some old) (hf0 : w.frozen? t = false) (hto : t.off = 0 ∧ t.spot = none) (hts : w.heap[t.block]? = some (.cells #[old] 93)) :
    Calls Tryd.prog 47 #[.iface 93 (.pointer (some e)), .iface 95 (.pointer (some t))] w fun ev w' => ev = .returned (.bool true) ∧ w'.cell? t = some (.pointer (some e)) ∧ (∀ a v, a.block ≠ t.block → w.cell? a = some v → w'.cell? a = some v) ∧ Below t.block w w' := by
  refine (As_calls e t old w hg ht0 hf0).mono ?_
  rintro ev w' ⟨rfl, rfl⟩
  have htl : t.block < w.heap.size := World.block_lt_of_cell? w _ ht0
  refine ⟨rfl, ?_, ?_, ?_⟩
  · obtain ⟨tb, to, ts⟩ := t
    obtain ⟨rfl, rfl⟩ : to = 0 ∧ ts = none := hto
    have : ((((w.alloc (.cells #[.pointer (some ⟨tb, 0, none⟩)] 95)).alloc (.cells #[.pointer (some ⟨17, 95, none⟩), .pointer (some ⟨w.heap.size, 0, none⟩), .int .u64 150] 140)).alloc (.cells #[.pointer (some ⟨17, 95, none⟩), .pointer (some ⟨w.heap.size, 0, none⟩), .int .u64 150] 140)).alloc (.cells #[.pointer (some e)] 93)).heap[tb]? = some (.cells #[old] 93) := by
      have hb : Below w.heap.size w ((((w.alloc (.cells #[.pointer (some ⟨tb, 0, none⟩)] 95)).alloc (.cells #[.pointer (some ⟨17, 95, none⟩), .pointer (some ⟨w.heap.size, 0, none⟩), .int .u64 150] 140)).alloc (.cells #[.pointer (some ⟨17, 95, none⟩), .pointer (some ⟨w.heap.size, 0, none⟩), .int .u64 150] 140)).alloc (.cells #[.pointer (some e)] 93)) :=
        ((((Below.refl _ _).alloc (Nat.le_refl _) _).alloc (by simp) _).alloc (by simp; omega) _).alloc (by simp; omega) _
      rw [hb.block tb htl]; exact hts
    simp [World.cell?, World.setCell, Array.getElem?_modify, this]
  · intro a v hne ha
    have hal : a.block < w.heap.size := World.block_lt_of_cell? w _ ha
    rw [World.cell?_of_block (w := ((((w.alloc (.cells #[.pointer (some t)] 95)).alloc (.cells #[.pointer (some ⟨17, 95, none⟩), .pointer (some ⟨w.heap.size, 0, none⟩), .int .u64 150] 140)).alloc (.cells #[.pointer (some ⟨17, 95, none⟩), .pointer (some ⟨w.heap.size, 0, none⟩), .int .u64 150] 140)).alloc (.cells #[.pointer (some e)] 93))) (Below.heap_setCell _ _ _ _ hne)]
    rw [World.cell?_alloc_lt _ _ a (by simp; omega), World.cell?_alloc_lt _ _ a (by simp; omega), World.cell?_alloc_lt _ _ a (by simp; omega), World.cell?_alloc_lt _ _ a hal]
    exact ha
  · exact Below.setCell (((((Below.refl _ _).alloc (by omega) _).alloc (by simp; omega) _).alloc (by simp; omega) _).alloc (by simp; omega) _) (Nat.le_refl _) _

set_option maxRecDepth 100000 in
set_option maxHeartbeats 4000000 in
theorem rawIs_err (B : Nat) (S : Nat → Addr) (w : World) (hE : Env B S w) (v : Value) (n : Int) (l : List (ByteArray × Int)) (hc : Chain S w v (rootIx n) l) (hn : (n == 0) = false) (want : Value) (hw : ErrVal w 0 want n l) (hl0 : l ≠ []) :
    Calls Tryd.prog 14 #[v, want] w (RetTrue w) := by
  obtain ⟨a, b, rfl, hoa, hob⟩ := hw
  have hlpos : 0 < l.length := List.length_pos_iff.2 hl0
  obtain ⟨ga, ca, rfl, hfa, _, hca, hmax⟩ := own_form hoa hlpos
  obtain ⟨gb, cb, rfl, hfb, _, hcb, _⟩ := own_form hob hlpos
  have HA := hid (fun (k : Nat) (hk : k < l.length) => hoa.cellAt k (by omega))
  have HB := hid (fun (k : Nat) (hk : k < l.length) => hob.cellAt k (by omega))
  clear hoa hob hl0
  have HE := hid hE
  have HC := hid hc
  obtain ⟨t, ad, rfl⟩ := hc.form
  clear hE hc
  go_enter Tryd.func14, Tryd.ntmps14
  go_wp2_with (first | (go_at_call 46; refine (rawRoot_calls B S _ (HE.out.below' ((Below.refl _ _).alloc (Nat.le_refl _) _)) n).mono ?_; rintro e w' ⟨rfl, rfl⟩) | (go_at_call 45; refine (Is_calls S _ _ _ _ (Chain.below ((Below.refl _ _).alloc (Nat.le_refl _) _) HC.out)).mono ?_; rintro e w' ⟨rfl, rfl⟩))
  have hb0 : Hid (Below w.heap.size w (w.alloc (.cells #[.int .i64 n, .slice (some ⟨ga, 0, none⟩) l.length ca, .slice (some ⟨gb, 0, none⟩) l.length cb] 39))) := (Below.refl _ _).alloc (Nat.le_refl _) _
  have hw0 : w.heap.size < (w.alloc (.cells #[.int .i64 n, .slice (some ⟨ga, 0, none⟩) l.length ca, .slice (some ⟨gb, 0, none⟩) l.length cb] 39)).heap.size := by simp
  have k0 : (w.alloc (.cells #[.int .i64 n, .slice (some ⟨ga, 0, none⟩) l.length ca, .slice (some ⟨gb, 0, none⟩) l.length cb] 39)).cell? ⟨w.heap.size, 0, none⟩ = some (.int .i64 n) := by simp
  have k1 : (w.alloc (.cells #[.int .i64 n, .slice (some ⟨ga, 0, none⟩) l.length ca, .slice (some ⟨gb, 0, none⟩) l.length cb] 39)).cell? ⟨w.heap.size, 1, none⟩ = some (.slice (some ⟨ga, 0, none⟩) l.length ca) := by simp
  have k2 : (w.alloc (.cells #[.int .i64 n, .slice (some ⟨ga, 0, none⟩) l.length ca, .slice (some ⟨gb, 0, none⟩) l.length cb] 39)).cell? ⟨w.heap.size, 2, none⟩ = some (.slice (some ⟨gb, 0, none⟩) l.length cb) := by simp
  have K := hid (And.intro k0 (And.intro k1 k2))
  clear k0 k1 k2
  generalize w.alloc (.cells #[.int .i64 n, .slice (some ⟨ga, 0, none⟩) l.length ca, .slice (some ⟨gb, 0, none⟩) l.length cb] 39) = w0 at *
  go_loopg [0, 5] l.length (fun m u i wr => ∃ pre suf, l = pre ++ suf ∧ suf.length = m ∧ i = .int .i64 (pre.length : Nat) ∧ Chain S wr u (rootIx n) suf ∧ Below w0.heap.size w0 wr)
  case atStart => exact ⟨[], l, rfl, rfl, rfl, Chain.below hb0 HC.out, Below.refl _ _⟩
  case round =>
    obtain ⟨pre, suf, hl, hm, rfl, hch, hbl⟩ := hrel
    have hbl' := hbl
    have k0 := (hbl.cell (show w.heap.size < w0.heap.size from hw0)).trans K.out.1
    have k1 := (hbl.cell (show w.heap.size < w0.heap.size from hw0)).trans K.out.2.1
    have k2 := (hbl.cell (show w.heap.size < w0.heap.size from hw0)).trans K.out.2.2
    have HBL := hid hbl
    clear hbl hbl'
    cases suf with
    | nil =>
      have hlen : l.length = pre.length := by rw [hl]; simp
      have HL := hid hl
      have HM := hid hm
      have HLen := hid hlen
      have hge : ¬ pre.length < l.length := by omega
      clear hl hm hlen
      obtain rfl : u0 = _ := hch
      have hEr := hid ((HE.out.below' hb0.out).below' HBL.out)
      obtain ⟨j, hj, hcmp⟩ := Option.map_eq_some_iff.1 Tryd.compES
      obtain ⟨k, hk, hks⟩ := Option.map_eq_some_iff.1 Tryd.sizeES
      have heq := run_eql_iface_ptr_same (P := Tryd.prog) wr (S (rootIx n)) Tryd.underlying26 Tryd.underlying252 hj hcmp hk
      clear hj hcmp hk hks
      go_wp2_with (go_at_call 46; refine (rawRoot_calls B S _ hEr.out n).mono ?_; rintro e w' ⟨rfl, rfl⟩)
      go_ret
      exact ⟨rfl, below_then hb0.out HBL.out (Nat.le_of_lt hw0)⟩
    | cons x suf =>
      obtain ⟨op, at_⟩ := x
      obtain ⟨fb, v', rfl, hfb, hch'⟩ := hch
      obtain ⟨t', ad', rfl⟩ := hch'.form
      have hlt : pre.length < l.length := by rw [hl]; simp
      have hop : wr.cell? ⟨ga, pre.length, none⟩ = some (.string op) := by
        rw [HBL.out.cell (show ga < w0.heap.size by omega), hb0.out.cell (show ga < w.heap.size by omega), HA.out _ hlt, hl]; simp
      have hat : wr.cell? ⟨gb, pre.length, none⟩ = some (.int .i64 at_) := by
        rw [HBL.out.cell (show gb < w0.heap.size by omega), hb0.out.cell (show gb < w.heap.size by omega), HB.out _ hlt, hl]; simp
      obtain ⟨c0, c1, c2⟩ := cells3 hfb
      have het := ((HE.out.below' hb0.out).below' HBL.out).et
      have HL := hid hl
      have HM := hid hm
      have HCH := hid hch'
      have HFB := hid hfb
      clear hl hm hch' hfb
      have i0 : (0 : Int) ≤ (pre.length : Int) := by omega
      have i1 : (pre.length : Int) < (l.length : Int) := by omega
      obtain ⟨j, hj, hcmp⟩ := Option.map_eq_some_iff.1 Tryd.compF
      obtain ⟨k, hk, hks⟩ := Option.map_eq_some_iff.1 Tryd.sizeF
      have hneq := fun w => run_neq_iface_ptr_same (P := Tryd.prog) w ⟨fb, 0, none⟩ Tryd.underlying26 Tryd.underlying93 hj hcmp hk
      clear hj hcmp hk hks
      have A1 : (wr.alloc (.cells #[.pointer none] 93)).drew.cell? ⟨12, 0, none⟩ = some (.iface 177 (.agg #[.pointer (some ⟨17, 26, none⟩)])) := by
        show (wr.alloc (.cells #[.pointer none] 93)).cell? ⟨12, 0, none⟩ = _
        rw [World.cell?_alloc_lt _ _ ⟨12, 0, none⟩ (World.block_lt_of_cell? _ _ het)]; exact het
      have A2 : (wr.alloc (.cells #[.pointer none] 93)).drew.cell? ⟨wr.heap.size, 0, none⟩ = some (.pointer none) := by
        show (wr.alloc (.cells #[.pointer none] 93)).cell? ⟨wr.heap.size, 0, none⟩ = _
        simp
      have A3 : (wr.alloc (.cells #[.pointer none] 93)).drew.frozen? ⟨wr.heap.size, 0, none⟩ = false := by
        show (wr.alloc (.cells #[.pointer none] 93)).frozen? ⟨wr.heap.size, 0, none⟩ = _
        simp
      have HA1 := hid A1
      have HA2 := hid A2
      have HA3 := hid A3
      have A4 : (wr.alloc (.cells #[.pointer none] 93)).drew.heap[wr.heap.size]? = some (.cells #[.pointer none] 93) := heap_alloc_new wr _
      have HA4 := hid A4
      have Q : ∀ a v, wr.cell? a = some v → a.block ≠ wr.heap.size ∧ (wr.alloc (.cells #[.pointer none] 93)).drew.cell? a = some v := fun a v h => by
        have hl := World.block_lt_of_cell? wr a h
        refine ⟨by omega, ?_⟩
        show (wr.alloc (.cells #[.pointer none] 93)).cell? a = _
        rw [World.cell?_alloc_lt _ _ a hl]; exact h
      have q1 := hid (Q _ _ k1)
      have q2 := hid (Q _ _ k2)
      have q3 := hid (Q _ _ hop)
      have q4 := hid (Q _ _ hat)
      have q5 := hid (Q _ _ c0)
      have q6 := hid (Q _ _ c1)
      have q7 := hid (Q _ _ c2)
      clear A1 A2 A3 A4 het Q hop hat c0 c1 c2 k0 k2
      go_wp2_with fail
      refine wp_region_seg [2] (by kernel_rfl) (by kernel_rfl) ?_
      refine wpSeg_quiet _ [_, _] 0 _ (by kernel_rfl) ?_
      repeat (any_goals (first | go_big_quiet_step (fail) | quiet_step (fail)))
      refine wpQuiet_nil ?_
      refine wpSeg_bar (by kernel_rfl) (by rfl) ?_
      rintro W ⟨nq, rfl⟩ K9 hK9
      go_simp
      go_at_call 47
      refine (As_kept _ _ (.pointer none) _ ?_ ?_ ?_ ?_ ?_).mono ?_
      · exact HA1.out
      · exact HA2.out
      · exact HA3.out
      · exact ⟨rfl, rfl⟩
      · exact HA4.out
      rintro e w2 ⟨rfl, df, dk, dB⟩
      have d1 := dk _ _ q1.out.1 q1.out.2
      have d2 := dk _ _ q2.out.1 q2.out.2
      have d3 := dk _ _ q3.out.1 q3.out.2
      have d4 := dk _ _ q4.out.1 q4.out.2
      have d5 := dk _ _ q5.out.1 q5.out.2
      have d6 := dk _ _ q6.out.1 q6.out.2
      have d7 := dk _ _ q7.out.1 q7.out.2
      have DB := hid dB
      clear dk dB
      refine hK9 _ _ ?_
      refine wpSeg_rest (by kernel_rfl) ?_
      repeat (any_goals (first | go_big_quiet_step (fail) | quiet_step (fail)))
      refine wpQuiet_nil ?_
      rintro W ⟨n2, rfl⟩
      go_wp2
      go_roundg suf.length
      case measure => have := HM.out; simp at this; omega
      case rel =>
        have BT : Below wr.heap.size wr w2 := (below_drawn (below_new wr _) nq).trans DB.out
        refine ⟨pre ++ [(op, at_)], suf, by rw [HL.out]; simp, rfl, by simp, ?_, ?_⟩
        · exact Chain.below (below_drawn BT _) HCH.out
        · exact below_then HBL.out (below_drawn BT _) HBL.out.size
end Go.Proofs.YtapebbejdgeijaaDoor
