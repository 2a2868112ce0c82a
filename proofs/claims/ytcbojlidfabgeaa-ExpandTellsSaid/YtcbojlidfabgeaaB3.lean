/- Words on worlds: a slice of rows that are read; a row in a block of numbers. Conditions: none. -/
import Derived.Test.YtcbojlidfabgeaaB2
namespace Go.Proofs.Ytcbojlidfabgeaa
open Go.RowKit
set_option linter.unusedVariables false
set_option linter.unusedSimpArgs false

/-- A row of numbers that is read; where it has cells, they lie in a block of numbers. -/
def RowT (w : World) (v : Value) (xs : List Int) : Prop :=
  ∃ A c, v = .slice A xs.length c ∧ Sl w A xs.length c 1 (ints xs) ∧ ∀ g o, A = some ⟨g, o, none⟩ → 0 < xs.length → ∃ cs fr, w.heap[g]? = some (.cells cs 3 fr)
theorem RowT.of_own {w : World} {base n : Nat} {v : Value} {xs : List Int} (h : w.ownsRow base 3 1 v n (ints xs)) : RowT w v xs := by
  have hn : xs.length = n := by have := h.1; simpa using this
  subst hn
  obtain ⟨A, c, rfl, hs⟩ := Sl.of_own h
  refine ⟨A, c, rfl, hs, ?_⟩
  intro g o hA hpos
  subst hA
  obtain ⟨_, cur, hh, _⟩ := own_open h
  exact ⟨_, _, hh⟩
theorem RowT.below {w w' : World} {v : Value} {xs : List Int} (h : RowT w v xs) (hb : Below w.heap.size w w') : RowT w' v xs := by
  obtain ⟨A, c, h1, h2, h3⟩ := h
  refine ⟨A, c, h1, h2.below hb, fun g o hA hp => ?_⟩
  obtain ⟨cs, fr, hh⟩ := h3 g o hA hp
  exact ⟨cs, fr, (hb.block g (Array.getElem?_eq_some_iff.1 hh).1).trans hh⟩
/-- A row stays while a block of another type is written. -/
theorem RowT.keep {w W w1 : World} {row : Option Nat} {v : Value} {xs : List Int} (h : RowT w v xs) (hb : Below w.heap.size w W) (hg : W.grownBy w1 row) (hne : ∀ g cs fr, w.heap[g]? = some (.cells cs 3 fr) → row ≠ some g) : RowT w1 v xs := by
  obtain ⟨A, c, h1, h2, h3⟩ := h
  have key : ∀ g o, A = some ⟨g, o, none⟩ → 0 < xs.length → w1.heap[g]? = w.heap[g]? ∧ ∃ cs fr, w.heap[g]? = some (.cells cs 3 fr) := by
    intro g o hA hp
    obtain ⟨cs, fr, hh⟩ := h3 g o hA hp
    exact ⟨(heap_keep hg hb hh (hne g cs fr hh)).trans hh.symm, cs, fr, hh⟩
  refine ⟨A, c, h1, ⟨h2.len, h2.cap, h2.capm, ?_⟩, ?_⟩
  · rcases h2.cells with h0 | ⟨b, off, hA, hc⟩
    · exact .inl h0
    · rcases Nat.eq_zero_or_pos xs.length with h0 | h0
      · exact .inl h0
      · refine .inr ⟨b, off, hA, fun j u hu => ?_⟩
        rw [← hc j u hu]
        exact World.cell?_of_block (w := w) (key b off hA h0).1
  · intro g o hA hp
    obtain ⟨he, cs, fr, hh⟩ := key g o hA hp
    exact ⟨cs, fr, he.trans hh⟩
theorem own_no_ints {w : World} {base : Nat} {e : TypeId} {s n : Nat} {v : Value} {xs : List Value} (h : w.ownsRow base e s v n xs) (he : e ≠ 3) : ∀ g cs fr, w.heap[g]? = some (.cells cs 3 fr) → v.ownBlock ≠ some g :=
  fun g cs fr hh => own_block_ne h hh he
theorem RowT.sl {w : World} {A : Option Addr} {n c : Nat} {xs : List Int} (h : RowT w (.slice A n c) xs) : n = xs.length ∧ Sl w A xs.length c 1 (ints xs) := by
  obtain ⟨A', c', h1, h2, _⟩ := h
  injection h1 with e1 e2 e3
  subst e1; subst e2; subst e3
  exact ⟨rfl, h2⟩

def RowsIn (w : World) (vs : List Value) (xss : List (List Int)) : Prop := vs.length = xss.length ∧ ∀ (i : Nat) (v : Value) (xs : List Int), vs[i]? = some v → xss[i]? = some xs → RowT w v xs
theorem RowsIn.below {w w' : World} {vs : List Value} {xss : List (List Int)} (h : RowsIn w vs xss) (hb : Below w.heap.size w w') : RowsIn w' vs xss := ⟨h.1, fun i v xs hv hx => (h.2 i v xs hv hx).below hb⟩
theorem RowsIn.keep {w W w1 : World} {row : Option Nat} {vs : List Value} {xss : List (List Int)} (h : RowsIn w vs xss) (hb : Below w.heap.size w W) (hg : W.grownBy w1 row) (hne : ∀ g cs fr, w.heap[g]? = some (.cells cs 3 fr) → row ≠ some g) : RowsIn w1 vs xss :=
  ⟨h.1, fun i v xs hv hx => (h.2 i v xs hv hx).keep hb hg hne⟩
theorem RowsIn.nil (w : World) : RowsIn w [] [] := ⟨rfl, fun i v xs hv => by simp at hv⟩
theorem RowsIn.snoc {w : World} {vs : List Value} {xss : List (List Int)} {v : Value} {xs : List Int} (h : RowsIn w vs xss) (hv : RowT w v xs) : RowsIn w (vs ++ [v]) (xss ++ [xs]) := by
  refine ⟨by simp [h.1], fun i u ys hu hy => ?_⟩
  by_cases hi : i < vs.length
  · rw [List.getElem?_append_left hi] at hu
    rw [List.getElem?_append_left (by have := h.1; omega)] at hy
    exact h.2 i u ys hu hy
  · rw [List.getElem?_append_right (by omega)] at hu
    rw [List.getElem?_append_right (by have := h.1; omega)] at hy
    have : i - vs.length = 0 := by
      have := (List.getElem?_eq_some_iff.1 hu).1
      simp at this; omega
    rw [this] at hu
    rw [← h.1, this] at hy
    simp at hu hy
    subst hu; subst hy
    exact hv
theorem RowsIn.get {w : World} {vs : List Value} {xss : List (List Int)} (h : RowsIn w vs xss) {i : Nat} {xs : List Int} (hx : xss[i]? = some xs) : ∃ A c, vs[i]? = some (.slice A xs.length c) ∧ Sl w A xs.length c 1 (ints xs) := by
  obtain ⟨v, hv⟩ : ∃ v, vs[i]? = some v := ⟨_, List.getElem?_eq_getElem (by have := (List.getElem?_eq_some_iff.1 hx).1; have := h.1; omega)⟩
  obtain ⟨A, c, rfl, hs, _⟩ := h.2 i v xs hv hx
  exact ⟨A, c, hv, hs⟩
end Go.Proofs.Ytcbojlidfabgeaa
