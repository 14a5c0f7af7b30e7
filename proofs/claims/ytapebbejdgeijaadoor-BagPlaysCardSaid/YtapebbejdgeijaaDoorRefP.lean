/- Plain: the reference's sets beside the bag's. -/
import Derived.Test.YtapebbejdgeijaaDoorRefB
import Derived.Test.YtapebbejdgeijaaDoorBagI
namespace Go.Proofs.YtapebbejdgeijaaDoor
open Go.RowKit Go.Extern.Stop Go.Stop Go.Extern Go.Deep

theorem sorted_ext : ∀ {l m : List Int}, l.Pairwise (· < ·) → m.Pairwise (· < ·) → (∀ z, z ∈ l ↔ z ∈ m) → l = m
  | [], [], _, _, _ => rfl
  | [], y :: m, _, _, h => absurd ((h y).2 (by simp)) (by simp)
  | x :: l, [], _, _, h => absurd ((h x).1 (by simp)) (by simp)
  | x :: l, y :: m, hl, hm, h => by
    rw [List.pairwise_cons] at hl hm
    have h1 : x = y := by
      have a := (h x).1 (by simp)
      have b := (h y).2 (by simp)
      rw [List.mem_cons] at a b
      rcases a with a | a
      · exact a
      · rcases b with b | b
        · exact b.symm
        · have := hm.1 x a; have := hl.1 y b; omega
    subst h1
    congr 1
    refine sorted_ext hl.2 hm.2 (fun z => ?_)
    constructor
    · intro hz
      have hlt := hl.1 z hz
      have := (h z).1 (by simp [hz])
      rw [List.mem_cons] at this
      rcases this with rfl | h2
      · omega
      · exact h2
    · intro hz
      have hlt := hm.1 z hz
      have := (h z).2 (by simp [hz])
      rw [List.mem_cons] at this
      rcases this with rfl | h2
      · omega
      · exact h2

theorem members_sorted (n : Nat) (ws : List Int) : (members n ws).Pairwise (· < ·) := by
  unfold members
  rw [List.pairwise_map]
  refine ((List.pairwise_lt_range (n := n)).filter _).imp (fun h => by omega)

theorem dd_mem_get {l : List Int} {k : Nat} (hk : k ≤ l.length) {z : Int} (h : z ∈ dd l k) : ∃ (i : Nat) (hi : i < l.length), i < k ∧ l[i] = z := by
  unfold dd at h
  obtain ⟨i, hi, rfl⟩ := List.mem_map.1 h
  have := List.mem_range.1 (List.mem_filter.1 hi).1
  exact ⟨i, by omega, this, by rw [List.getD_eq_getElem?_getD, List.getElem?_eq_getElem (by omega)]; rfl⟩
theorem dd_sorted {l : List Int} (hl : l.Pairwise (· ≤ ·)) : ∀ k, k ≤ l.length → (dd l k).Pairwise (· < ·) ∧ ∀ i (hi : i < l.length), i < k → l[i] ∈ dd l k
  | 0, _ => ⟨by simp [dd], fun i _ h => absurd h (by omega)⟩
  | k + 1, hk => by
    obtain ⟨h1, h2⟩ := dd_sorted hl k (by omega)
    have hkl : k < l.length := by omega
    have hg : l.getD k 0 = l[k] := by rw [List.getD_eq_getElem?_getD, List.getElem?_eq_getElem hkl]; rfl
    have hmono := List.pairwise_iff_getElem.1 hl
    rw [dd_snoc]
    by_cases hd : ddAt l k = true
    · rw [if_pos hd, hg]
      refine ⟨?_, ?_⟩
      · rw [List.pairwise_append]
        refine ⟨h1, by simp, fun a ha b hb => ?_⟩
        rw [List.mem_singleton.1 hb]
        obtain ⟨i, hi, hik, rfl⟩ := dd_mem_get (by omega) ha
        have hne : l[k] ≠ l[k - 1] := by
          unfold ddAt at hd
          rw [hg] at hd
          have hg1 : l.getD (k - 1) 0 = l[k - 1] := by rw [List.getD_eq_getElem?_getD, List.getElem?_eq_getElem (by omega)]; rfl
          rw [hg1] at hd
          rcases Bool.or_eq_true _ _ ▸ hd with h | h
          · have : k = 0 := by simpa using h
            omega
          · simpa using h
        have h3 := hmono (k - 1) k (by omega) hkl (by omega)
        have h4 : l[i] ≤ l[k - 1] := by
          rcases Nat.lt_or_ge i (k - 1) with h | h
          · exact hmono i (k - 1) hi (by omega) h
          · have : i = k - 1 := by omega
            subst this; omega
        omega
      · intro i hi hik
        rw [List.mem_append]
        rcases Nat.lt_or_ge i k with h | h
        · exact .inl (h2 i hi h)
        · have : i = k := by omega
          subst this; exact .inr (by simp)
    · rw [if_neg hd, List.append_nil]
      refine ⟨h1, fun i hi hik => ?_⟩
      rcases Nat.lt_or_ge i k with h | h
      · exact h2 i hi h
      · have : i = k := by omega
        subst this
        have hd' : ddAt l i = false := by simpa using hd
        unfold ddAt at hd'
        rw [Bool.or_eq_false_iff] at hd'
        have hi0 : i ≠ 0 := by simpa using hd'.1
        have e : l[i] = l[i - 1] := by
          have hg1 : l.getD (i - 1) 0 = l[i - 1] := by rw [List.getD_eq_getElem?_getD, List.getElem?_eq_getElem (by omega)]; rfl
          have := hd'.2
          rw [hg, hg1] at this
          simpa using this
        rw [e]
        exact h2 (i - 1) (by omega) (by omega)
theorem rset_sorted (xs : List Int) : (rset xs).Pairwise (· < ·) := (dd_sorted (sortI_sorted xs) _ (Nat.le_refl _)).1
theorem mem_rset {xs : List Int} {z : Int} : z ∈ rset xs ↔ z ∈ xs := by
  rw [← mem_sortI (zs := xs)]
  constructor
  · intro h
    obtain ⟨i, hi, _, rfl⟩ := dd_mem_get (Nat.le_refl _) h
    exact List.getElem_mem hi
  · intro h
    obtain ⟨i, hi, rfl⟩ := List.getElem_of_mem h
    exact (dd_sorted (sortI_sorted xs) _ (Nat.le_refl _)).2 i hi hi
theorem rset_members {n : Nat} {xs : List Int} (hx : ∀ x ∈ xs, 0 ≤ x ∧ x < (n : Int)) : rset xs = members n (bitsOf n xs) :=
  sorted_ext (rset_sorted xs) (members_sorted n _) (fun z => by rw [mem_rset, mem_members_bitsOf hx])

/-! ### words that hold no bit beyond n -/
structure Clean (n : Nat) (ws : List Int) : Prop where
  len : ws.length = (n + 63) / 64
  rng : ∀ y ∈ ws, 0 ≤ y ∧ y < 18446744073709551616
  hi : ∀ q, n ≤ q → memb ws q = false
theorem Clean.bitsOf {n : Nat} {xs : List Int} (hx : ∀ x ∈ xs, 0 ≤ x ∧ x < (n : Int)) : Clean n (bitsOf n xs) where
  len := bitsOf_length n xs
  rng := bitsOf_range n xs
  hi q hq := by
    rw [memb_bitsOf n xs hx]
    refine decide_eq_false fun h => ?_
    have := hx _ h
    omega
theorem Clean.ext {n : Nat} {ws ws' : List Int} (h : Clean n ws) (h' : Clean n ws') (he : members n ws = members n ws') : ws = ws' := by
  refine words_ext (h.len.trans h'.len.symm) h.rng h'.rng (fun q => ?_)
  rcases Nat.lt_or_ge q n with hq | hq
  · have e : ∀ ws, memb ws q = true ↔ (q : Int) ∈ members n ws := fun ws => by
      rw [mem_members]
      constructor
      · intro h; exact ⟨q, hq, h, rfl⟩
      · rintro ⟨p, _, h2, h3⟩
        obtain rfl : p = q := by omega
        exact h2
    rw [Bool.eq_iff_iff, e, e, he]
  · rw [h.hi q hq, h'.hi q hq]
theorem memb_orWords {x y : List Int} (hl : x.length = y.length) (hx : ∀ z ∈ x, 0 ≤ z ∧ z < 18446744073709551616) (hy : ∀ z ∈ y, 0 ≤ z ∧ z < 18446744073709551616) (q : Nat) : memb (orWords x y) q = (memb x q || memb y q) := by
  unfold memb orWords
  rw [List.getD_eq_getElem?_getD, List.getD_eq_getElem?_getD, List.getD_eq_getElem?_getD, List.getElem?_zipWith]
  rcases Nat.lt_or_ge (q / 64) x.length with h | h
  · rw [List.getElem?_eq_getElem h, List.getElem?_eq_getElem (by omega)]
    have a := hx _ (List.getElem_mem h)
    have b := hy _ (List.getElem_mem (show q / 64 < y.length by omega))
    simp only [Option.getD_some]
    rw [u64_or _ _ a.1 a.2 b.1 b.2, Int.toNat_natCast, Nat.testBit_or]
  · rw [List.getElem?_eq_none h, List.getElem?_eq_none (by omega)]
    simp
theorem Clean.or {n : Nat} {x y : List Int} (hx : Clean n x) (hy : Clean n y) : Clean n (orWords x y) where
  len := by simp [orWords, hx.len, hy.len]
  rng := orWords_range x y
  hi q hq := by rw [memb_orWords (hx.len.trans hy.len.symm) hx.rng hy.rng, hx.hi q hq, hy.hi q hq]; rfl
theorem rset_or {n : Nat} {x y : List Int} (hx : Clean n x) (hy : Clean n y) : rset (members n x ++ members n y) = members n (orWords x y) := by
  refine sorted_ext (rset_sorted _) (members_sorted n _) (fun z => ?_)
  rw [mem_rset, List.mem_append, mem_members, mem_members, mem_members]
  constructor
  · rintro (⟨q, h1, h2, h3⟩ | ⟨q, h1, h2, h3⟩)
    · exact ⟨q, h1, by rw [memb_orWords (hx.len.trans hy.len.symm) hx.rng hy.rng, h2]; rfl, h3⟩
    · exact ⟨q, h1, by rw [memb_orWords (hx.len.trans hy.len.symm) hx.rng hy.rng, h2, Bool.or_true], h3⟩
  · rintro ⟨q, h1, h2, h3⟩
    rw [memb_orWords (hx.len.trans hy.len.symm) hx.rng hy.rng, Bool.or_eq_true] at h2
    rcases h2 with h2 | h2
    · exact .inl ⟨q, h1, h2, h3⟩
    · exact .inr ⟨q, h1, h2, h3⟩

/-! ### the reference's key -/
theorem keyRI_range {l : List Int} (h : ∀ y ∈ l, 0 ≤ y ∧ y < 8192) : ∀ y ∈ keyRI l, 0 ≤ y ∧ y < 256 := by
  intro y hy
  unfold keyRI two at hy
  simp only [List.mem_flatMap, List.mem_cons, List.not_mem_nil, or_false] at hy
  obtain ⟨z, hz, rfl | rfl⟩ := hy
  · have := h z hz; omega
  · have := h z hz; omega
theorem keyRI_inj : ∀ {l m : List Int}, keyRI l = keyRI m → l = m
  | [], [], _ => rfl
  | [], y :: m, h => by simp [keyRI, two] at h
  | x :: l, [], h => by simp [keyRI, two] at h
  | x :: l, y :: m, h => by
    simp only [keyRI, two, List.flatMap_cons, List.cons_append, List.nil_append, List.cons.injEq] at h
    obtain ⟨h1, h2, h3⟩ := h
    have : x = y := by omega
    rw [this, keyRI_inj (l := l) (m := m) h3]
theorem nums_inj {a b : List Int} (ha : ∀ y ∈ a, 0 ≤ y ∧ y < 256) (hb : ∀ y ∈ b, 0 ≤ y ∧ y < 256) (h : a.map (fun x => UInt8.ofNat x.toNat) = b.map (fun x => UInt8.ofNat x.toNat)) : a = b := by
  have hlen : a.length = b.length := by simpa using congrArg List.length h
  refine List.ext_getElem hlen (fun i hi hi' => ?_)
  have r1 := ha _ (List.getElem_mem hi)
  have r2 := hb _ (List.getElem_mem hi')
  have e : UInt8.ofNat a[i].toNat = UInt8.ofNat b[i].toNat := by
    have := congrArg (fun l => l[i]?) h
    simpa [hi, hi'] using this
  have e2 := congrArg UInt8.toNat e
  simp only [UInt8.toNat_ofNat'] at e2
  omega
theorem keyR_inj {l m : List Int} (hl : ∀ y ∈ l, 0 ≤ y ∧ y < 8192) (hm : ∀ y ∈ m, 0 ≤ y ∧ y < 8192) (h : keyR l = keyR m) : l = m := by
  refine keyRI_inj ?_
  unfold keyR at h
  rw [strOfNums_data, strOfNums_data] at h
  exact nums_inj (keyRI_range hl) (keyRI_range hm) h

def refFind (n : Nat) (sets : List (List Int)) (t : List UInt8) : Option Int := Option.map (fun i : Nat => (i : Int)) (sets.findIdx? fun ws => decide (keyR (members n ws) = t))
theorem refFind_snoc (n : Nat) (sets : List (List Int)) (ws : List Int) (h : refFind n sets (keyR (members n ws)) = none) (t : List UInt8) :
    refFind n (sets ++ [ws]) t = if t = keyR (members n ws) then some (sets.length : Int) else refFind n sets t := by
  unfold refFind at *
  rw [List.findIdx?_append]
  have h0 : sets.findIdx? (fun ws' => decide (keyR (members n ws') = keyR (members n ws))) = none := Option.map_eq_none_iff.1 h
  by_cases ht : t = keyR (members n ws)
  · subst ht
    rw [h0]
    simp
  · rw [if_neg ht]
    cases hs : sets.findIdx? (fun ws' => decide (keyR (members n ws') = t)) with
    | some i => simp
    | none => simp [Ne.symm ht]
theorem refFind_bagFind {n : Nat} (hn : n ≤ 8192) {sets : List (List Int)} (hs : ∀ ws ∈ sets, Clean n ws) {ws : List Int} (hw : Clean n ws) : refFind n sets (keyR (members n ws)) = bagFind sets (keyB ws) := by
  unfold refFind bagFind
  have hm : ∀ ws, ∀ y ∈ members n ws, 0 ≤ y ∧ y < 8192 := fun ws y hy => by have := members_range y hy; omega
  have e : ∀ (l : List (List Int)), (∀ ws ∈ l, Clean n ws) → l.findIdx? (fun ws' => decide (keyR (members n ws') = keyR (members n ws))) = l.findIdx? (fun ws' => decide (keyB ws' = keyB ws)) := fun l => by
    induction l with
    | nil => intro _; rfl
    | cons x l ih =>
      intro hl
      rw [List.findIdx?_cons, List.findIdx?_cons, ih (fun ws h => hl ws (by simp [h]))]
      have hx := hl x (by simp)
      have : (keyR (members n x) = keyR (members n ws)) ↔ (keyB x = keyB ws) := by
        constructor
        · intro h; rw [hx.ext hw (keyR_inj (hm x) (hm ws) h)]
        · intro h; rw [keyB_inj (hx.len.trans hw.len.symm) hx.rng hw.rng h]
      rw [decide_eq_decide.2 this]
  rw [e sets hs]
end Go.Proofs.YtapebbejdgeijaaDoor
