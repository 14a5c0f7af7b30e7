/- slices.Values of numbers, AppendSeq, Collect, Sort, Sorted. -/
import Derived.Test.YtapebbejdgeijaaDoorBack
import Derived.Test.YtapebbejdgeijaaDoorSortI
import Derived.Test.YtapebbejdgeijaaDoorRaw
import Derived.Shelf.Slices.In.SortNone
import Derived.RangeFuncBox
namespace Go.Proofs.YtapebbejdgeijaaDoor
open Go.RowKit Go.Extern.Stop Go.Stop Go.Extern Go.Deep Go.Shelf

attribute [local go_sem] Oper.semAt_some

set_option maxRecDepth 100000 in
set_option maxHeartbeats 2000000 in
theorem vals1_in (F : Fence) (n : Nat) (h8 : F.fn 133) (hro : F.round = none) (hn : 1 ≤ n) (l Bs n₀ gx cap : Nat) (A : Option Addr) (zs : List Int) (hreach : zs.length ≤ 4611686018427387903) (J Jx : List Int → World → Prop)
    (hY : ∀ pre x W, J pre W → pre.length < zs.length → YieldAt F (n - 1) Tryd.prog l #[.int .i64 x] W fun e W' =>
      (e = .returned (.bool true) ∧ J (pre ++ [x]) W' ∧ KpX n₀ gx W W') ∨ (e = .returned (.bool false) ∧ Jx (pre ++ [x]) W'))
    (W : World) (hBs : W.cell? ⟨Bs, 0, none⟩ = some (.slice A zs.length cap)) (hc : ∀ j, j < zs.length → ∃ b o, A = some ⟨b, o, none⟩ ∧ b < n₀ ∧ b ≠ gx ∧ W.cell? ⟨b, o + j, none⟩ = some (.int .i64 (zs.getD j 0))) (h0 : J [] W) :
    CallsIn F n Tryd.prog 133 #[.func (.yield l) #[] #[], .pointer (some ⟨Bs, 0, none⟩)] W fun e W' => (∃ v, e = .returned v) ∧
      ((∃ ys, ys = zs ∧ J ys W') ∨ (∃ pre, (∃ k, pre = zs.take k) ∧ Jx pre W')) := by
  refine callsIn_of_wp Tryd.func133 rfl h8 ?_ hro
  simp only [Tryd.ntmps133, List.size_toArray, List.length_cons, List.length_nil, Nat.reduceAdd, Nat.reduceSub, Array.replicate_succ, Array.replicate_zero, List.push_toArray, List.append_toArray, List.nil_append, List.cons_append]
  obtain ⟨len, hlen⟩ : ∃ len, len = zs.length := ⟨_, rfl⟩
  have HLEN := hid hlen
  rw [← hlen] at hBs hc hreach hY
  clear hlen
  gi_wp2
  gi_loopw [7] (fun i wr => ∃ k : Nat, k ≤ len ∧ i = .int .i64 (k : Int) ∧ J (zs.take k) wr ∧ KpX n₀ gx W wr)
    (fun i _ => len - (intOf i).toNat)
  case atStart => exact ⟨0, Nat.zero_le _, rfl, h0, KpX.refl _ _ _⟩
  case round =>
    obtain ⟨k, hk, rfl, hJs, hnx⟩ := hrel
    by_cases hlt : k < len
    · obtain ⟨b, o, rfl, hb1, hb2, hcc⟩ := hc k hlt
      have hcx := (hnx.cell (p := ⟨b, o + k, none⟩) hb1 hb2).trans hcc
      have hkz : k < zs.length := by rw [← HLEN.out]; exact hlt
      have htake : zs.take (k + 1) = zs.take k ++ [zs.getD k 0] := by
        rw [List.take_add_one, List.getElem?_eq_getElem hkz, List.getD_eq_getElem?_getD, List.getElem?_eq_getElem hkz]; rfl
      have HT := hid htake
      obtain ⟨fn, tmps, assign, body, hy, hR⟩ := hY _ (zs.getD k 0) wr hJs (by rw [List.length_take]; omega)
      clear hcc htake hkz
      generalize zs.getD k 0 = x at *
      gi_wp2
      refine hR.mono ?_
      rintro e W3 (⟨rfl, hJ3, hk3⟩ | ⟨rfl, hJx3⟩)
      · gi_wp2
        go_roundw
        case rel => exact ⟨k + 1, by omega, by go_num, by rw [HT.out]; exact hJ3, hnx.trans hk3⟩
        case measure => simp [intOf]; omega
      · gi_wp2
        refine bodyPost_ret (results_none rfl _ _ _) rfl ?_
        exact ⟨⟨_, rfl⟩, .inr ⟨_, ⟨k + 1, HT.out.symm⟩, hJx3⟩⟩
    · obtain rfl : len = k := by omega
      gi_wp2
      go_end0
      exact ⟨⟨_, rfl⟩, .inl ⟨_, rfl, by rw [HLEN.out, List.take_length] at hJs; exact hJs⟩⟩

theorem values_calls (a : Option Addr) (len cap : Nat) (w : World) :
    Calls Tryd.prog 113 #[.slice a len cap] w fun e w' => e = .returned (.func (.func 133) #[] #[.pointer (some ⟨w.heap.size, 0, none⟩)]) ∧ w' = w.alloc (.cells #[.slice a len cap] 22) := by
  go_enter Tryd.func113, Tryd.ntmps113
  go_wp2_with fail
  go_ret
  exact ⟨rfl, rfl⟩

theorem vals_stops (F : Fence) (n : Nat) (h7 : F.fn 133) (hro : F.round = none) (hn : 1 ≤ n) (Bs n₀ gx cap : Nat) (A : Option Addr) (zs : List Int) (hreach : zs.length ≤ 4611686018427387903) (w : World) (hBs : Bs < n₀) (hn₀ : n₀ ≤ w.heap.size)
    (hc : w.cell? ⟨Bs, 0, none⟩ = some (.slice A zs.length cap)) (hI : ∀ j, j < zs.length → ∃ b o, A = some ⟨b, o, none⟩ ∧ b < n₀ ∧ b ≠ gx ∧ w.cell? ⟨b, o + j, none⟩ = some (.int .i64 (zs.getD j 0))) :
    SeqStopsK F n Tryd.prog 133 #[.pointer (some ⟨Bs, 0, none⟩)] (fun x : Int => #[Value.int .i64 x]) (KpX n₀ gx) (fun ys => ys = zs) (fun pre => ∃ k, pre = zs.take k) zs.length w := fun l J Jx W hW _ _ hY h0 => by
  have hW' := hW.mono hn₀
  refine vals1_in F n h7 hro hn l Bs n₀ gx cap A zs hreach J Jx hY W ((hW'.cell (p := ⟨Bs, 0, none⟩) hBs).trans hc) (fun j hj => ?_) h0
  obtain ⟨b, o, h1, h2, h3, h4⟩ := hI j hj
  exact ⟨b, o, h1, h2, h3, (hW'.cell (p := ⟨b, o + j, none⟩) h2).trans h4⟩

theorem sortS_calls (w : World) (base n : Nat) (v : Value) (zs : List Int) (ho : w.ownsRow base 3 1 v n (zs.map (Value.int .i64))) (hn : n < 4611686018427387904) :
    Calls Tryd.prog 132 #[v] w fun e w' => e = .returned (.tuple #[]) ∧ w'.ownsRow base 3 1 v n ((sortI zs).map (Value.int .i64)) ∧ Below base w w' := by
  have hl : zs.length = n := by have := ho.1; simpa using this
  rcases ho.2 with ⟨rfl, h0⟩ | ⟨g, cap, cur, rfl, hb, hh, h1, h2, h3, h4⟩
  · subst h0
    refine (Any.slices_Sort_int_none { Tryd.lays191 with } none 0 w).mono ?_
    rintro e w' ⟨rfl, rfl⟩
    obtain rfl : zs = [] := List.eq_nil_of_length_eq_zero hl
    refine ⟨rfl, ?_, Below.refl _ _⟩
    rw [show sortI [] = [] from List.mergeSort_nil]
    exact ho
  · subst hl
    have hg : g < w.heap.size := (Array.getElem?_eq_some_iff.1 hh).1
    refine (Any.slices_Sort_int { Tryd.lays191 with } g 0 cap zs w (holds_of_blockI hh (by simpa using h4)) hg hn).mono ?_
    rintro e w' ⟨rfl, m, os, rfl⟩
    have hgr := grownBy_sortedI (w := w) (g := g) (n := m) (os := os) (sortI zs).toArray
    refine ⟨rfl, ownsRow_sortedI (sortI_length zs) hb hh h1 h2 h3, (Below.refl base w).grown hgr (Nat.le_trans hb (Nat.le_of_lt hg)) (fun k hk => by obtain rfl := Option.some.inj hk; exact hb)⟩

set_option maxRecDepth 100000 in
set_option maxHeartbeats 2000000 in
theorem appendSeq_calls (w : World) (Bs cap : Nat) (A : Option Addr) (zs : List Int) (hlen : zs.length ≤ 262144) (hBs : w.cell? ⟨Bs, 0, none⟩ = some (.slice A zs.length cap)) (hI : ∀ j, j < zs.length → ∃ b o, A = some ⟨b, o, none⟩ ∧ w.cell? ⟨b, o + j, none⟩ = some (.int .i64 (zs.getD j 0))) :
    Calls Tryd.prog 143 #[.slice none 0 0, .func (.func 133) #[] #[.pointer (some ⟨Bs, 0, none⟩)]] w fun e w' => ∃ v, e = .returned v ∧ w'.ownsRow w.heap.size 3 1 v zs.length (zs.map (Value.int .i64)) ∧ Below w.heap.size w w' := by
  obtain ⟨i0, hi, hz0, hz1, hz2⟩ := info_parts Tryd.infoInt
  have hb1 := below_new w (.cells #[.slice none 0 0] 22)
  have hst : SeqStopsK Fence.wide 2 Tryd.prog 133 #[.pointer (some ⟨Bs, 0, none⟩)] (fun x : Int => #[Value.int .i64 x]) (KpX w.heap.size w.heap.size) (fun ys => ys = zs) (fun pre => ∃ k, pre = zs.take k) zs.length (w.alloc (.cells #[.slice none 0 0] 22)) := by
    have hl := World.block_lt_of_cell? w _ hBs
    refine vals_stops Fence.wide 2 trivial rfl (by omega) Bs w.heap.size w.heap.size cap A zs (by omega) _ hl (by simp) ((hb1.cell (p := ⟨Bs, 0, none⟩) hl).trans hBs) (fun j hj => ?_)
    obtain ⟨b, o, h1, h2⟩ := hI j hj
    have hbl := World.block_lt_of_cell? w _ h2
    exact ⟨b, o, h1, hbl, Nat.ne_of_lt hbl, (hb1.cell (p := ⟨b, o + j, none⟩) hbl).trans h2⟩
  have HST := hid hst
  have HB1 := hid hb1
  clear hst hb1 hBs hI
  refine (callsIn_wide (n := 3)).1 ?_
  refine callsIn_of_wp_marks Tryd.func143 rfl trivial ?_ rfl
  simp only [Tryd.ntmps143, List.size_toArray, List.length_cons, List.length_nil, Nat.reduceAdd, Nat.reduceSub, Array.replicate_succ, Array.replicate_zero, List.push_toArray, List.append_toArray, List.nil_append, List.cons_append]
  gi_wp2
  have hs5 : (w.alloc (.cells #[.slice none 0 0] 22)).heap.size = w.heap.size + 1 := by simp
  have HBX := hid (Boxed.new w 22 (.slice none 0 0))
  generalize w.alloc (.cells #[.slice none 0 0] 22) = W5 at *
  refine wpIn_rangeFunc_ownG rfl (by omega) (gf := 133) (lb := #[.pointer (some ⟨Bs, 0, none⟩)]) rfl trivial (enters_of Tryd.func133 (by kernel_rfl) rfl) HST.out KpX.trans (fun W l o o' h h1 h2 h3 => kpX_put (w := W5) (by omega) W l o o' h h1 h2 h3) (Below.refl _ _) (fun _ => rfl)
    (fun pre W => (∃ v, Boxed W w.heap.size 22 v ∧ W.ownsRow w.heap.size 3 1 v pre.length (pre.map (Value.int .i64)) ∧ True) ∧ Below w.heap.size W5 W)
    (fun _ _ _ => False)
    (OwnFrom.and (Own.from (holdsRow_own w.heap.size w.heap.size 22 3 1 (fun pre : List Int => pre.length) (fun pre => pre.map (Value.int .i64)) (fun _ _ => True)) _) (ownFrom_below (by omega) (by omega)))
    (fun _ _ _ _ _ hs _ _ => hs)
    ⟨⟨_, HBX.out, World.ownsRow_nil _ _ _ _, trivial⟩, Below.refl _ _⟩
    (fun x => { tmps := #[.slice none 0 0, .func (.func 133) #[] #[.pointer (some ⟨Bs, 0, none⟩)], .pointer (some ⟨w.heap.size, 0, none⟩), undef, .slice none 0 0, .int .i64 x, .func (.func 133) #[] #[.pointer (some ⟨Bs, 0, none⟩)], .int .i64 x, undef, undef, undef, undef, undef], defers := [] }) ?assign ?body ?done ?stop
  case assign =>
    intro l x W K hK
    gi_wp2
    exact hK
  case body =>
    rintro l pre x W ⟨⟨v, hbx, hrow, -⟩, hB⟩ hlt
    have hc := hbx.cell
    have hf := hbx.frozen
    have HBX2 := hid hbx
    have HROW := hid hrow
    have HB := hid hB
    have hsz := hB.size
    have hlt2 : pre.length + 1 ≤ 262144 := by omega
    clear hbx hrow hB
    gi_wp2_with (gi_at_builtin; refine wpListIn_append_own _ rfl _ _ 22 rfl w.heap.size 3 i0 (.int .i64 0) 1 8 Tryd.underlying22 hi hz0 hz1 hz2 rfl (by decide) _ _ _ rfl (HROW.out.alloc _) ⟨W.heap.size, 0, none⟩ 1 1 [.int .i64 x] rfl rfl (World.news_of_block (heap_alloc_new W _)) (by simp [Value.oneCell']) (by simp only [maxLen]; omega) (by omega) (by simp; omega) ?_; intro v' w3 hown' hg3 hnil3; obtain ⟨g', cap', hv'⟩ := ownsRow_succ hown'; subst hv'; obtain ⟨p1, p2, p3, p4, p5⟩ := HBX2.out.appended (by decide) HROW.out (by omega) (Nat.le_refl _) hown' hg3; have q1 := p1.cell; have q2 := p1.frozen; have P2 := hid p2; have P3 := hid p3; have P4 := hid p4; have P5 := hid p5; clear p1 p2 p3 p4 p5 hown' hg3)
    refine ⟨P4.out.from _, KpX.of_below P5.out, ⟨_, P2.out, ?_, trivial⟩, HB.out.trans P5.out⟩
    have h := P3.out
    simpa using h
  case done =>
    rintro D ys W hD rfl ⟨⟨v, hbx, hrow, -⟩, hB⟩ hK
    have hc := hbx.cell
    have HROW := hid hrow
    have HB := hid hB
    clear hrow hB hbx
    gi_wp2
    refine ⟨by simp, .inl ⟨_, _, rfl, run_takeDeferred hK, ?_⟩⟩
    refine ⟨_, results_tmp rfl _ _ _, _, rfl, ownsRow_putObj HROW.out _ hK rfl, (HB1.out.trans HB.out).trans (belowK_b (w := w) (Nat.le_refl _) W D _ _ (by omega) hK rfl rfl)⟩
  case stop =>
    rintro D c pre W _ _ h _
    exact h.elim

theorem collect_calls (w : World) (Bs cap : Nat) (A : Option Addr) (zs : List Int) (hlen : zs.length ≤ 262144) (hBs : w.cell? ⟨Bs, 0, none⟩ = some (.slice A zs.length cap)) (hI : ∀ j, j < zs.length → ∃ b o, A = some ⟨b, o, none⟩ ∧ w.cell? ⟨b, o + j, none⟩ = some (.int .i64 (zs.getD j 0))) :
    Calls Tryd.prog 131 #[.func (.func 133) #[] #[.pointer (some ⟨Bs, 0, none⟩)]] w fun e w' => ∃ v, e = .returned v ∧ w'.ownsRow w.heap.size 3 1 v zs.length (zs.map (Value.int .i64)) ∧ Below w.heap.size w w' := by
  have HBS := hid hBs
  have HI := hid hI
  clear hBs hI
  go_enter Tryd.func131, Tryd.ntmps131
  go_wp2_with fail
  refine (appendSeq_calls w Bs cap A zs hlen HBS.out HI.out).mono ?_
  rintro e w1 ⟨v, rfl, ho, hb⟩
  have HO := hid ho
  have HB := hid hb
  clear ho hb
  go_wp2_with fail
  go_ret
  exact ⟨_, rfl, HO.out, HB.out⟩

theorem sorted_calls (w : World) (Bs cap : Nat) (A : Option Addr) (zs : List Int) (hlen : zs.length ≤ 262144) (hBs : w.cell? ⟨Bs, 0, none⟩ = some (.slice A zs.length cap)) (hI : ∀ j, j < zs.length → ∃ b o, A = some ⟨b, o, none⟩ ∧ w.cell? ⟨b, o + j, none⟩ = some (.int .i64 (zs.getD j 0))) :
    Calls Tryd.prog 112 #[.func (.func 133) #[] #[.pointer (some ⟨Bs, 0, none⟩)]] w fun e w' => ∃ v, e = .returned v ∧ w'.ownsRow w.heap.size 3 1 v zs.length ((sortI zs).map (Value.int .i64)) ∧ Below w.heap.size w w' := by
  have HBS := hid hBs
  have HI := hid hI
  clear hBs hI
  go_enter Tryd.func112, Tryd.ntmps112
  go_wp2_with fail
  refine (collect_calls w Bs cap A zs hlen HBS.out HI.out).mono ?_
  rintro e w1 ⟨v, rfl, ho, hb⟩
  have HO := hid ho
  have HB := hid hb
  clear ho hb
  go_wp2_with fail
  refine (sortS_calls w1 w.heap.size zs.length v zs HO.out (by omega)).mono ?_
  rintro e w2 ⟨rfl, ho2, hb2⟩
  have HO2 := hid ho2
  have HB2 := hid (HB.out.trans hb2)
  clear ho2 hb2
  go_wp2_with fail
  go_ret
  exact ⟨_, rfl, HO2.out, HB2.out⟩
end Go.Proofs.YtapebbejdgeijaaDoor
