/- Both bags: Find, Get, Has, Union. -/
import Derived.Test.YtapebbejdgeijaaDoorPlayA
namespace Go.Proofs.YtapebbejdgeijaaDoor
open Go.RowKit Go.Extern.Stop Go.Stop Go.Extern Go.Deep

set_option maxRecDepth 100000 in
theorem Find_nil (B : Nat) (S : Nat → Addr) (w : World) (hE : Env B S w) (u : Value) :
    Calls Tryd.prog 13 #[.pointer none, u] w fun e w' => ∃ v, e = .returned (.tuple #[.int .i64 0, v]) ∧ Chain S w' v (rootIx 11) [(opBag, 0)] ∧ Below w.heap.size w w' := by
  have HE := hid hE
  clear hE
  go_enter Tryd.func13, Tryd.ntmps13
  go_wp2_with fail
  refine (bits_nil B S _ HE.out u).mono ?_
  rintro e w1 ⟨v, rfl, hch, hb⟩
  obtain ⟨t, ad, rfl⟩ := hch.form
  have HCH := hid hch
  clear hch
  go_wp2_with fail
  go_ret2
  exact ⟨_, rfl, HCH.out, hb⟩

set_option maxRecDepth 100000 in
theorem Get_err (B : Nat) (S : Nat → Addr) (w : World) (hE : Env B S w) (base b r n : Nat) (sets : List (List Int)) (hbag : BagAt w base b r n sets) (k : Int) (hk : k < 0 ∨ (sets.length : Int) ≤ k) :
    Calls Tryd.prog 11 #[.pointer (some ⟨b, 0, none⟩), .int .i64 k] w fun e w' => ∃ v, e = .returned (.tuple #[.slice none 0 0, v]) ∧ Chain S w' v (rootIx 3) [(opBag, 0)] ∧ Below w.heap.size w w' := by
  have HE := hid hE
  have HBAG := hid hbag
  clear hE hbag
  go_enter Tryd.func11, Tryd.ntmps11
  go_wp2_with fail
  refine (bagSet_err B S w HE.out base b r n sets HBAG.out k hk 0).mono ?_
  rintro e w1 ⟨v, rfl, hch, hb⟩
  obtain ⟨t, a, rfl⟩ := hch.form
  have HC := hid hch
  clear hch
  go_wp2_with fail
  go_ret2
  exact ⟨_, rfl, HC.out, hb⟩

set_option maxRecDepth 100000 in
theorem Get_nil (B : Nat) (S : Nat → Addr) (w : World) (hE : Env B S w) (k : Int) :
    Calls Tryd.prog 11 #[.pointer none, .int .i64 k] w fun e w' => ∃ v, e = .returned (.tuple #[.slice none 0 0, v]) ∧ Chain S w' v (rootIx 11) [(opBag, 0)] ∧ Below w.heap.size w w' := by
  have HE := hid hE
  clear hE
  go_enter Tryd.func11, Tryd.ntmps11
  go_wp2_with fail
  refine (bagSet_nil B S w HE.out k 0).mono ?_
  rintro e w1 ⟨v, rfl, hch, hb⟩
  obtain ⟨t, a, rfl⟩ := hch.form
  have HC := hid hch
  clear hch
  go_wp2_with fail
  go_ret2
  exact ⟨_, rfl, HC.out, hb⟩

structure FindRes where
  id : Int
  N : Int
  l : List (ByteArray × Int)
def specFind : BSt → List Int → FindRes
  | none, _ => ⟨0, 11, [(opBag, 0)]⟩
  | some (n, sets), xs => match firstBad n xs with
    | some i => ⟨0, 3, [(opBag, (i : Int))]⟩
    | none => ⟨(bagFind sets (keyB (bitsOf n xs))).getD (-1), 0, []⟩
theorem bagFind_any (B : Nat) (S : Nat → Addr) (w : World) (hE : Env B S w) (base : Nat) (p : Value) (r : Nat) (st : BSt) (hb : BagIn w base p r st) (A : Option Addr) (m c : Nat) (xs : List Int) (hm : m = xs.length) (hr : RI w .i64 A xs) :
    Calls Tryd.prog 13 #[p, .slice A m c] w fun e w' => ∃ v, e = .returned (.tuple #[.int .i64 (specFind st xs).id, v]) ∧ OpRes S w' v (specFind st xs).N (specFind st xs).l ∧ Below w.heap.size w w' := by
  subst hm
  cases st with
  | none =>
    obtain ⟨rfl, hbase⟩ := hb
    refine (Find_nil B S w hE _).mono ?_
    rintro e w' ⟨v, rfl, hc, hbl⟩
    exact ⟨v, rfl, .inr ⟨hc, rfl, by simp [specFind]⟩, hbl⟩
  | some s =>
    obtain ⟨n, sets⟩ := s
    obtain ⟨b, rfl, hbag⟩ := hb
    refine (Find_calls B S w hE base b r n sets A c xs hbag hr).mono ?_
    rintro e w' ⟨hbl, h⟩
    cases hf : firstBad n xs with
    | some i =>
      rw [hf] at h
      have e : specFind (some (n, sets)) xs = ⟨0, 3, [(opBag, (i : Int))]⟩ := by simp only [specFind, hf]
      rw [e]
      obtain ⟨v, rfl, hc⟩ := h
      exact ⟨v, rfl, .inr ⟨hc, rfl, by simp⟩, hbl⟩
    | none =>
      rw [hf] at h
      have e : specFind (some (n, sets)) xs = ⟨(bagFind sets (keyB (bitsOf n xs))).getD (-1), 0, []⟩ := by simp only [specFind, hf]
      rw [e]
      exact ⟨.nilIface, h, .inl ⟨rfl, rfl⟩, hbl⟩
theorem refFind_any {X : Nat → Prop} (w : World) (base : Nat) (p : Value) (r : Nat) (st : BSt) (hb : RefIn w base p r X st) (A : Option Addr) (m c : Nat) (xs : List Int) (hm : m = xs.length) (hr : RI w .i64 A xs) (hA : A = none → c = 0) (hl : xs.length * 8 ≤ 140737488355328) :
    Calls Tryd.prog 50 #[p, .slice A m c] w fun e w' => ∃ v, e = .returned (.tuple #[.int .i64 (specFind st xs).id, v]) ∧ ErrVal w' 0 v (specFind st xs).N (specFind st xs).l ∧ Below w.heap.size w w' := by
  subst hm
  cases st with
  | none =>
    obtain ⟨rfl, hbase⟩ := hb
    refine (refFind_nil w _).mono ?_
    rintro e w' ⟨v, rfl, hc, hbl⟩
    exact ⟨v, rfl, hc, hbl⟩
  | some s =>
    obtain ⟨n, sets⟩ := s
    obtain ⟨b, rfl, hbag⟩ := hb
    refine (refFind_calls w base b r n sets A c xs hbag hr hA hl).mono ?_
    rintro e w' ⟨hbl, h⟩
    cases hf : firstBad n xs with
    | some i =>
      rw [hf] at h
      have e : specFind (some (n, sets)) xs = ⟨0, 3, [(opBag, (i : Int))]⟩ := by simp only [specFind, hf]
      rw [e]
      obtain ⟨v, rfl, hc⟩ := h
      exact ⟨v, rfl, hc, hbl⟩
    | none =>
      rw [hf] at h
      have e : specFind (some (n, sets)) xs = ⟨(bagFind sets (keyB (bitsOf n xs))).getD (-1), 0, []⟩ := by simp only [specFind, hf]
      rw [e]
      have hall := firstBad_all hf
      obtain ⟨v, he, hc⟩ := h
      rw [rset_members hall, refFind_bagFind hbag.facts.2.2.1 hbag.cln (Clean.bitsOf hall)] at he
      exact ⟨v, he, hc, hbl⟩

structure GetRes where
  xs : List Int
  N : Int
  l : List (ByteArray × Int)
def specGet : BSt → Int → GetRes
  | none, _ => ⟨[], 11, [(opBag, 0)]⟩
  | some (n, sets), i => if i < 0 then ⟨[], 3, [(opBag, 0)]⟩ else match sets[i.toNat]? with
    | some ws => ⟨members n ws, 0, []⟩
    | none => ⟨[], 3, [(opBag, 0)]⟩
theorem specGet_cases (n : Nat) (sets : List (List Int)) (i : Int) : (∃ (k : Nat) (ws : List Int), i = k ∧ sets[k]? = some ws ∧ specGet (some (n, sets)) i = ⟨members n ws, 0, []⟩) ∨ ((i < 0 ∨ (sets.length : Int) ≤ i) ∧ specGet (some (n, sets)) i = ⟨[], 3, [(opBag, 0)]⟩) := by
  by_cases hi : i < 0
  · exact .inr ⟨.inl hi, by simp only [specGet, hi, if_true]⟩
  · cases hs : sets[i.toNat]? with
    | some ws => exact .inl ⟨i.toNat, ws, by omega, hs, by simp only [specGet, hi, if_false, hs]⟩
    | none =>
      rw [List.getElem?_eq_none_iff] at hs
      refine .inr ⟨.inr (by omega), ?_⟩
      have hs' : sets[i.toNat]? = none := List.getElem?_eq_none hs
      simp only [specGet, hi, if_false, hs']
theorem bagGet_any (B : Nat) (S : Nat → Addr) (w : World) (hE : Env B S w) (base : Nat) (p : Value) (r : Nat) (st : BSt) (hb : BagIn w base p r st) (i : Int) :
    Calls Tryd.prog 11 #[p, .int .i64 i] w fun e w' => ∃ A c v, e = .returned (.tuple #[.slice A (specGet st i).xs.length c, v]) ∧ w'.ownsRow w.heap.size 3 1 (.slice A (specGet st i).xs.length c) (specGet st i).xs.length ((specGet st i).xs.map (Value.int .i64)) ∧ OpRes S w' v (specGet st i).N (specGet st i).l ∧ Below w.heap.size w w' := by
  cases st with
  | none =>
    obtain ⟨rfl, hbase⟩ := hb
    refine (Get_nil B S w hE i).mono ?_
    rintro e w' ⟨v, rfl, hc, hbl⟩
    exact ⟨none, 0, v, rfl, World.ownsRow_nil _ _ _ _, .inr ⟨hc, rfl, by simp [specGet]⟩, hbl⟩
  | some s =>
    obtain ⟨n, sets⟩ := s
    obtain ⟨b, rfl, hbag⟩ := hb
    rcases specGet_cases n sets i with ⟨k, ws, rfl, hk, e⟩ | ⟨hi, e⟩
    · rw [e]
      refine (Get_ok w base b r n sets hbag k ws hk).mono ?_
      rintro e w' ⟨v, rfl, ho, hbl⟩
      obtain ⟨A, c, rfl, _, _⟩ := own_slice ho
      exact ⟨A, c, .nilIface, rfl, ho, .inl ⟨rfl, rfl⟩, hbl⟩
    · rw [e]
      refine (Get_err B S w hE base b r n sets hbag i hi).mono ?_
      rintro e w' ⟨v, rfl, hc, hbl⟩
      exact ⟨none, 0, v, rfl, World.ownsRow_nil _ _ _ _, .inr ⟨hc, rfl, by simp⟩, hbl⟩
theorem refGet_any {X : Nat → Prop} (w : World) (base : Nat) (p : Value) (r : Nat) (st : BSt) (hb : RefIn w base p r X st) (i : Int) :
    Calls Tryd.prog 51 #[p, .int .i64 i] w (GetPost (specGet st i).xs (specGet st i).N (specGet st i).l w) := by
  cases st with
  | none =>
    obtain ⟨rfl, hbase⟩ := hb
    exact refGet_none w i
  | some s =>
    obtain ⟨n, sets⟩ := s
    obtain ⟨b, rfl, hbag⟩ := hb
    rcases specGet_cases n sets i with ⟨k, ws, hi, hk, e⟩ | ⟨hi, e⟩
    · rw [e]
      exact refGet_ok w base b r n sets hbag i k hi ws hk
    · rw [e]
      exact refGet_bad w base b r n sets hbag i hi
end Go.Proofs.YtapebbejdgeijaaDoor
