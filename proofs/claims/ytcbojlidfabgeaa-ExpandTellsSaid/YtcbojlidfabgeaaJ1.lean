/- What is lifted, in plain words; slices of rows; clones. Conditions: none. -/
import Derived.Test.YtcbojlidfabgeaaI6
namespace Go.Proofs.Ytcbojlidfabgeaa
open Go.RowKit
set_option linter.unusedVariables false
set_option linter.unusedSimpArgs false

def liftTo (E : Int → Int → List Int) (p : List Int) : Nat → Option (List Int)
  | 0 => some (p.take 1)
  | k + 1 => (liftTo E p k).bind fun acc => (p[k]?).bind fun x => (p[k + 1]?).bind fun y => if E x y = [] then none else some (acc ++ (E x y).drop 1)
def liftRow (E : Int → Int → List Int) (p : List Int) : Option (List Int) := liftTo E p (p.length - 1)
def liftAll (E : Int → Int → List Int) : List (List Int) → Option (List (List Int))
  | [] => some []
  | p :: ps => (liftRow E p).bind fun q => (liftAll E ps).map fun r => q :: r
theorem liftTo_none {E : Int → Int → List Int} {p : List Int} {k m : Nat} (h : liftTo E p k = none) (hm : k ≤ m) : liftTo E p m = none := by
  induction m with
  | zero => obtain rfl : k = 0 := by omega
            exact h
  | succ m ih =>
    by_cases e : k = m + 1
    · subst e; exact h
    · rw [liftTo, ih (by omega)]; rfl
theorem liftTo_succ {E : Int → Int → List Int} {p : List Int} {k : Nat} {acc : List Int} {x y : Int} (h : liftTo E p k = some acc) (hx : p[k]? = some x) (hy : p[k + 1]? = some y) : liftTo E p (k + 1) = if E x y = [] then none else some (acc ++ (E x y).drop 1) := by
  rw [liftTo, h, hx, hy]; rfl
theorem liftTo_len {E : Int → Int → List Int} (hE : ∀ x y, (E x y).length ≤ 268435458) {p : List Int} {k : Nat} {acc : List Int} (h : liftTo E p k = some acc) : acc.length ≤ 1 + k * 268435458 := by
  induction k generalizing acc with
  | zero => rw [liftTo] at h; injection h with h; subst h; simp; omega
  | succ k ih =>
    rw [liftTo] at h
    cases h1 : liftTo E p k with
    | none => rw [h1] at h; cases h
    | some a =>
      rw [h1] at h
      cases hx : p[k]? with
      | none => rw [hx] at h; cases h
      | some x =>
        rw [hx] at h
        cases hy : p[k + 1]? with
        | none => rw [hy] at h; cases h
        | some y =>
          rw [hy] at h
          simp only [Option.bind_some] at h
          split at h
          · cases h
          · injection h with h
            subst h
            have := ih h1
            have := hE x y
            simp
            omega
theorem liftAll_snoc (E : Int → Int → List Int) (ps : List (List Int)) (p : List Int) : liftAll E (ps ++ [p]) = (liftAll E ps).bind fun d => (liftRow E p).map fun q => d ++ [q] := by
  induction ps with
  | nil =>
    simp only [List.nil_append, liftAll, Option.bind_some]
    cases liftRow E p <;> rfl
  | cons a ps ih =>
    simp only [List.cons_append, liftAll]
    rw [ih]
    cases liftRow E a with
    | none => rfl
    | some q =>
      simp only [Option.bind_some]
      cases liftAll E ps with
      | none => rfl
      | some d => cases liftRow E p <;> rfl
theorem liftAll_none {E : Int → Int → List Int} {ps : List (List Int)} {p : List Int} (hp : p ∈ ps) (h : liftRow E p = none) : liftAll E ps = none := by
  induction ps with
  | nil => cases hp
  | cons a ps ih =>
    rw [liftAll]
    rcases List.mem_cons.1 hp with rfl | hp
    · rw [h]; rfl
    · rw [ih hp]; cases liftRow E a <;> rfl
theorem liftAll_take {E : Int → Int → List Int} {ps : List (List Int)} {k : Nat} {p : List Int} {d : List (List Int)} {q : List Int} (hp : ps[k]? = some p) (h : liftAll E (ps.take k) = some d) (hq : liftRow E p = some q) : liftAll E (ps.take (k + 1)) = some (d ++ [q]) := by
  rw [take_snoc_any hp, liftAll_snoc, h, hq]; rfl
theorem edge11_len {N : Nat} {es : List (Int × Int)} {l : List Stp} (hr : rightB N es = true) (hN : N ≤ 30) (x y : Int) : (edge11S N es l x y).length ≤ 268435458 := by
  cases hok : (replayS N (beginS N es) l).2
  · simp [edge11S, hok]
  · rw [edge11_eq hr hok]
    have hcn := (cnt_all (right_mem hr) l.reverse (by rwa [List.reverse_reverse])).2
    have := innR_small (r := l.reverse) (by omega) x y
    unfold edgeR
    split
    · simp; omega
    · simp

/-! Slices of rows. -/
theorem Sl.hi {w : World} {A ao : Option Addr} {n c h : Nat} {u : List Int} (hs : Sl w A n c 1 (ints u)) (hh : h ≤ n) (hao : ∀ g o, A = some ⟨g, o, none⟩ → ao = some ⟨g, o, none⟩) : Sl w ao h c 1 (ints (u.take h)) := by
  have hl : u.length = n := by have := hs.len; simpa using this
  refine ⟨by simp; omega, Nat.le_trans hh hs.cap, hs.capm, ?_⟩
  rcases hs.cells with h0 | ⟨b, off, hA, hc⟩
  · exact .inl (by omega)
  · refine .inr ⟨b, off, hao b off hA, fun j v hv => hc j v ?_⟩
    simp only [ints, List.map_take, List.getElem?_take] at hv ⊢
    split at hv
    · exact hv
    · cases hv
theorem Sl.lo1 {w : World} {A ao : Option Addr} {n c : Nat} {u : List Int} (hs : Sl w A n c 1 (ints u)) (hn : 2 ≤ n) (hao : ∀ g o, A = some ⟨g, o, none⟩ → c ≠ 1 → ao = some ⟨g, o + 1, none⟩) : Sl w ao (n - 1) (c - 1) 1 (ints (u.drop 1)) := by
  have hl : u.length = n := by have := hs.len; simpa using this
  have hc1 := hs.cap
  refine ⟨by simp; omega, by omega, by have := hs.capm; omega, ?_⟩
  rcases hs.cells with h0 | ⟨b, off, hA, hc⟩
  · exact .inl (by omega)
  · refine .inr ⟨b, off + 1, hao b off hA (by omega), fun j v hv => ?_⟩
    have := hc (j + 1) v (by simpa [ints, List.map_drop, List.getElem?_drop, Nat.add_comm] using hv)
    rw [show off + 1 + j = off + (j + 1) by omega]
    exact this
theorem CloneI (w : World) (A : Option Addr) (n c : Nat) (u : List Int) (h : Sl w A n c 1 (ints u)) (hn : n ≤ 8589934592) :
    Calls Try.prog 50 #[.slice A n c] w fun e w' => (∃ A' c', e = .returned (.slice A' n c') ∧ w'.ownsRow w.heap.size 3 1 (.slice A' n c') n (ints u)) ∧ Below w.heap.size w w' := by
  have hl : u.length = n := by have := h.len; simpa using this
  rcases h.cells with h0 | ⟨b, off, rfl, hc⟩
  · subst h0
    have : u = [] := List.length_eq_zero_iff.1 hl
    subst this
    cases A with
    | none =>
      refine (Try.slices_Clone_int_nil 0 c w).mono ?_
      rintro e w' ⟨rfl, rfl⟩
      exact ⟨⟨none, 0, rfl, World.ownsRow_nil _ _ _ _⟩, Below.refl _ _⟩
    | some a =>
      refine (Try.slices_Clone_int_zero a c w).mono ?_
      rintro e w' ⟨v', rfl, ho, _, hb⟩
      obtain ⟨A', c', rfl, _⟩ := Sl.of_own ho
      exact ⟨⟨A', c', rfl, ho⟩, hb⟩
  · refine (Try.slices_Clone_int b off n c u w (by omega) (by omega) (fun j hj => ?_)).mono ?_
    · exact hc j _ (ints_get (by rw [List.getD_eq_getElem?_getD, List.getElem?_eq_getElem hj]; rfl))
    · rintro e w' ⟨v', rfl, ho, _, hb⟩
      obtain ⟨A', c', rfl, _⟩ := Sl.of_own ho
      rw [List.take_of_length_le (by omega)] at ho
      exact ⟨⟨A', c', rfl, ho⟩, hb⟩
end Go.Proofs.Ytcbojlidfabgeaa
