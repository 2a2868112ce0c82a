/- The reference's Same: two rows are one. Conditions: none. -/
import Derived.Test.YtcbojlidfabgeaaR3a
namespace Go.Proofs.Ytcbojlidfabgeaa
open Go.RowKit
set_option linter.unusedVariables false
set_option linter.unusedSimpArgs false

theorem take_eq_step {α : Type} {xs ys : List α} {k : Nat} {x y : α} (hx : xs[k]? = some x) (hy : ys[k]? = some y) (h : xs.take k = ys.take k) (hxy : x = y) : xs.take (k + 1) = ys.take (k + 1) := by
  obtain ⟨h1, h2⟩ := List.getElem?_eq_some_iff.1 hx
  obtain ⟨h3, h4⟩ := List.getElem?_eq_some_iff.1 hy
  rw [List.take_succ_eq_append_getElem h1, List.take_succ_eq_append_getElem h3, h, h2, h4, hxy]
theorem ne_of_at {α : Type} {xs ys : List α} {k : Nat} {x y : α} (hx : xs[k]? = some x) (hy : ys[k]? = some y) (hxy : x ≠ y) : xs ≠ ys := by
  intro h; subst h; rw [hx] at hy; injection hy with hy; exact hxy hy

set_option maxHeartbeats 800000 in
theorem Same_any (w : World) (A B : Option Addr) (c d : Nat) (xs ys : List Int) (h : Sl w A xs.length c 1 (ints xs)) (h' : Sl w B ys.length d 1 (ints ys)) :
    Calls Try.prog 20 #[.slice A xs.length c, .slice B ys.length d] w fun e w' => e = .returned (.bool (decide (xs = ys))) ∧ ∃ q, w' = w.drewN q := by
  have hm := h.nm
  have hm' := h'.nm
  have H := Lib.hid h
  have H' := Lib.hid h'
  clear h h'
  by_cases hl : xs.length = ys.length
  · have b1 : ((xs.length : Int) != (ys.length : Int)) = false := by rw [hl]; simp
    have HL := Lib.hid hl
    clear hl
    go_enter Try.func20, Try.ntmps20
    go_wp2
    go_loopw [5] (fun i wr => ∃ k q : Nat, k ≤ xs.length ∧ i = .int .i64 k ∧ xs.take k = ys.take k ∧ wr = w.drewN q) (fun i _ => xs.length - (intOf i).toNat)
    case atStart => exact ⟨0, 0, Nat.zero_le _, rfl, rfl, rfl⟩
    case round =>
      obtain ⟨k, q, hk, rfl, heq, rfl⟩ := hrel
      have HE := Lib.hid heq
      clear heq
      by_cases hlt : k < xs.length
      · obtain ⟨b, off, hA, hc⟩ := H.out.at' (by omega)
        obtain ⟨b', off', hB, hc'⟩ := H'.out.at' (by have := HL.out; omega)
        subst hA; subst hB
        have hlt' : k < ys.length := by have := HL.out; omega
        obtain ⟨x, hx⟩ : ∃ x, xs[k]? = some x := ⟨_, List.getElem?_eq_getElem hlt⟩
        obtain ⟨y, hy⟩ : ∃ y, ys[k]? = some y := ⟨_, List.getElem?_eq_getElem hlt'⟩
        have d0 := hc k _ (ints_get hx)
        have d1 := hc' k _ (ints_get hy)
        have HX := Lib.hid hx
        have HY := Lib.hid hy
        clear hc hc' hx hy H H'
        by_cases hxy : x = y
        · have b2 : (x != y) = false := by simpa using hxy
          have HXY := Lib.hid hxy
          clear hxy
          go_wp2_with fail
          go_quiet (fail)
          go_wp2
          go_roundw
          case rel => exact ⟨k + 1, _, by omega, by go_num, take_eq_step HX.out HY.out HE.out HXY.out, rfl⟩
          case measure => simp [intOf]; omega
        · have b2 : (x != y) = true := by simpa using hxy
          have HN := Lib.hid (ne_of_at HX.out HY.out hxy)
          clear hxy
          go_wp2_with fail
          go_quiet (fail)
          go_wp2
          go_ret
          exact ⟨ret_bool (decide_eq_false HN.out).symm, q + nq, by rw [World.drewN_drewN]⟩
      · go_wp2
        go_ret
        refine ⟨ret_bool (decide_eq_true ?_).symm, _, rfl⟩
        have := HE.out
        rwa [List.take_of_length_le (by omega), List.take_of_length_le (by have := HL.out; omega)] at this
  · have b1 : ((xs.length : Int) != (ys.length : Int)) = true := by simp; omega
    have HN := Lib.hid (show xs ≠ ys from fun h => hl (by rw [h]))
    clear hl
    go_enter Try.func20, Try.ntmps20
    go_wp2
    go_ret
    exact ⟨ret_bool (decide_eq_false HN.out).symm, 0, rfl⟩
end Go.Proofs.Ytcbojlidfabgeaa
