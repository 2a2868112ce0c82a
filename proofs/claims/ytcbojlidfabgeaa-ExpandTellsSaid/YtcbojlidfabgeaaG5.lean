/- slices.Sort of a row that is sorted: nothing that lay is changed. Conditions: none. -/
import Derived.Test.YtcbojlidfabgeaaG4
import Derived.Test.YtcbojlidfabgeaaShI
import Derived.Lib.OwnBridge
namespace Go.Proofs.Ytcbojlidfabgeaa
open Go.RowKit Go.Sort
set_option linter.unusedVariables false
set_option linter.unusedSimpArgs false

theorem mergeSort_sorted {zs : List Int} (h : zs.Pairwise (· ≤ ·)) : zs.mergeSort (fun x y => decide (x ≤ y)) = zs :=
  List.mergeSort_of_pairwise (by simpa using h)
theorem putRow_same {w : World} {b o : Nat} {zs : List Int} (h : Holds (Value.int .i64) w b o zs.toArray) (g : Nat) : (putRow (Value.int .i64) w b o zs.toArray).heap[g]? = w.heap[g]? := by
  simp only [putRow, mapBlock, Array.getElem?_modify]
  split
  · rename_i e
    subst e
    cases hb : w.heap[b]? with
    | none => rfl
    | some x =>
      cases x with
      | cells cs t fr =>
        simp only [Option.map_some, onCells]
        congr 2
        apply Array.ext'
        apply List.ext_getElem?
        intro j
        simp only [putCells, Array.getElem?_toList, Array.getElem?_mapIdx]
        cases hj : cs[j]? with
        | none => rfl
        | some v =>
          simp only [Option.map_some]
          split
          · rename_i hc
            obtain ⟨c1, c2⟩ := hc
            have := (h (j - o) (by omega)).1
            simp only [World.cell?, hb, Option.isSome_none, Bool.false_eq_true, if_false, show o + (j - o) = j by omega, hj] at this
            rw [← this]
          · rfl
      | _ => rfl
  · rfl
theorem SortI_sorted (w : World) (A : Option Addr) (n c : Nat) (zs : List Int) (base : Nat) (h : w.ownsRow base 3 1 (.slice A n c) n (ints zs)) (hs : zs.Pairwise (· ≤ ·)) (hn : n ≤ 1000000) :
    Calls Try.prog 61 #[.slice A n c] w fun e w' => e = .returned (.tuple #[]) ∧ Below w.heap.size w w' := by
  by_cases hv : (Value.slice A n c) = .slice none 0 0
  · injection hv with h1 h2 h3
    subst h1; subst h2; subst h3
    refine (Try.slices_Sort_int_none none 0 w).mono ?_
    rintro e w' ⟨rfl, rfl⟩
    exact ⟨rfl, Below.refl _ _⟩
  · obtain ⟨g, cap, he, hg1, hg2, _, _, hl, hH⟩ := Lib.holds_of_ownsRow (enc := Value.int .i64) (zs := zs) h hv
    injection he with h1 h2 h3
    subst h1; subst h3; subst hl
    refine (Try.slices_Sort_int g 0 c zs w hH hg2 (by omega)).mono ?_
    rintro e w' ⟨rfl, m, os, rfl⟩
    refine ⟨rfl, ?_⟩
    rw [mergeSort_sorted hs]
    refine ⟨rfl, rfl, rfl, ?_, fun k hk => ?_⟩
    · simp [grow, putRow, mapBlock, Sort.ahead]
    · have h1 : (putRow (Value.int .i64) (Sort.ahead w m) g 0 zs.toArray).heap[k]? = w.heap[k]? := putRow_same (w := w) hH k
      rw [← h1]
      simp only [grow]
      rw [Array.getElem?_append_left]
      simpa [putRow, mapBlock, Sort.ahead] using hk
end Go.Proofs.Ytcbojlidfabgeaa
