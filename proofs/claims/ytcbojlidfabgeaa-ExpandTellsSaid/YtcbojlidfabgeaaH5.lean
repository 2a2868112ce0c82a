/- slices.Concat of rows of numbers. Conditions: the sum of the lengths fits. -/
import Derived.Test.YtcbojlidfabgeaaH2
namespace Go.Proofs.Ytcbojlidfabgeaa
open Go.RowKit
set_option linter.unusedVariables false
set_option linter.unusedSimpArgs false

set_option maxRecDepth 100000 in
theorem Grow0 (w : World) (n : Nat) (hn : n ≤ 8589934592) : Calls Try.prog 107 #[.slice none 0 0, .int .i64 n] w fun e w' => ∃ A' c', e = .returned (.slice A' 0 c') ∧ w'.ownsRow w.heap.size 3 1 (.slice A' 0 c') 0 [] ∧ Below w.heap.size w w' := by
  rcases Nat.eq_zero_or_pos n with rfl | h0
  · refine (Any8.slices_Grow_room Try.laysNm84_f107 none 0 0 0 w (Nat.le_refl _) (by omega) (by omega) (by omega)).mono ?_
    rintro e w' ⟨rfl, rfl⟩
    exact ⟨none, 0, rfl, World.ownsRow_nil _ _ _ _, Below.refl _ _⟩
  · obtain ⟨i0, hi, hz0, hz1, hz2⟩ := info_parts info3
    have hG1 := grownCap_ge w (0 + n) 0 3
    have hG2 := grownCap_le_maxLen w (0 + n) 0 3 (by unfold maxLen; omega)
    refine (Any8.slices_Grow_grow Try.laysNm84_f107 i0 (Value.int .i64 0) hi hz0 (by omega) none 0 0 n [] w (Nat.le_refl _) (by omega) (by rw [hz2]; omega) (by omega) (by simp) (fun _ => rfl) (fun a h => by cases h)).mono ?_
    rintro e w' ⟨rfl, rfl⟩
    refine ⟨_, _, rfl, ?_, below_join (w1 := w.drew) (Below.refl _ _).drew (below_alloc _ _)⟩
    have g1 : (w.drew.alloc (.cells (([] : List Value).toArray ++ Builtin.zeroCells (Value.int .i64 0).cells (0 + n - 0) ++ Builtin.zeroCells (Value.int .i64 0).cells (grownCap w (0 + n) 0 3 - (0 + n))) 3)).heap[w.heap.size]? = some (.cells ((Builtin.zeroCells (Value.int .i64 0).cells (0 + n - 0)).toList ++ (Builtin.zeroCells (Value.int .i64 0).cells (grownCap w (0 + n) 0 3 - (0 + n))).toList).toArray 3 (0, 0)) := by
      have := heap_alloc_new w.drew (.cells (([] : List Value).toArray ++ Builtin.zeroCells (Value.int .i64 0).cells (0 + n - 0) ++ Builtin.zeroCells (Value.int .i64 0).cells (grownCap w (0 + n) 0 3 - (0 + n))) 3)
      refine Eq.trans this ?_
      congr 2
      apply Array.ext'
      simp
    refine own_new g1 (Nat.le_refl _) (Nat.zero_le _) hG2 ?_ (by simp)
    simp only [List.length_append, Array.length_toList, zero_len]
    show 0 + n - 0 + (grownCap w (0 + n) 0 3 - (0 + n)) = grownCap w (0 + n) 0 3
    omega
def sumL (xss : List (List Int)) : Nat := (xss.map List.length).sum
theorem sumL_flatten (xss : List (List Int)) : xss.flatten.length = sumL xss := by simp [sumL, List.length_flatten]
theorem sumL_take {xss : List (List Int)} {k : Nat} {xs : List Int} (h : xss[k]? = some xs) : sumL (xss.take (k + 1)) = sumL (xss.take k) + xs.length := sum_take_succ h
theorem sumL_le (xss : List (List Int)) (k : Nat) : sumL (xss.take k) ≤ sumL xss := sum_take_le xss k
theorem flatten_take {xss : List (List Int)} {k : Nat} {xs : List Int} (h : xss[k]? = some xs) : (xss.take (k + 1)).flatten = (xss.take k).flatten ++ xs := by
  rw [take_snoc_any h]; simp
set_option maxHeartbeats 1600000 in
set_option maxRecDepth 100000 in
theorem Concat_any (w : World) (A : Option Addr) (c : Nat) (vs : List Value) (xss : List (List Int)) (h : Sl w A xss.length c 1 vs) (hr : RowsIn w vs xss) (hs : sumL xss ≤ 8589934592) :
    Calls Try.prog 86 #[.slice A xss.length c] w fun e w' => (∃ A' c', e = .returned (.slice A' xss.flatten.length c') ∧ w'.ownsRow w.heap.size 3 1 (.slice A' xss.flatten.length c') xss.flatten.length (ints xss.flatten)) ∧ Below w.heap.size w w' := by
  have hm := h.nm
  have H := Lib.hid h
  have HR := Lib.hid hr
  clear h hr
  obtain ⟨i0, hi, hz0, hz1, hz2⟩ := info_parts info3
  go_enter Try.func86, Try.ntmps86
  go_wp2_with fail
  go_loop [3, 11] (fun t i => ∃ k : Nat, i = .int .i64 k ∧ k ≤ xss.length ∧ t = .int .i64 (sumL (xss.take k))) (fun _ i => xss.length - (intOf i).toNat)
  case atStart => exact ⟨0, rfl, Nat.zero_le _, rfl⟩
  case round =>
    obtain ⟨k, rfl, hk, rfl⟩ := hrel
    have hle := sumL_le xss k
    by_cases hlt : k < xss.length
    · obtain ⟨b, off, hA, hc⟩ := H.out.at' (by omega)
      obtain ⟨xs, hx⟩ : ∃ xs, xss[k]? = some xs := ⟨_, List.getElem?_eq_getElem hlt⟩
      obtain ⟨Ax, cx, hv, hsl⟩ := HR.out.get hx
      subst hA
      have d0 := hc k _ hv
      have hxm := hsl.nm
      have hst := sumL_take hx
      have hle2 := sumL_le xss (k + 1)
      have HT := Lib.hid hst
      have hxl : xs.length ≤ 8589934592 := by omega
      have hsum : sumL (xss.take k) + xs.length ≤ 8589934592 := by omega
      clear hc hx hv hsl hst hle2
      go_wp2_with fail
      go_round
      case rel => exact ⟨k + 1, by go_num, by omega, by rw [HT.out]; go_num⟩
      case measure => simp [intOf]; omega
    · obtain rfl : k = xss.length := by omega
      have HT := Lib.hid (show sumL (xss.take xss.length) = sumL xss by rw [List.take_length])
      rw [HT.out]
      clear hle hlt hk
      go_wp2_with ((go_at_call 107; refine (Grow0 _ (sumL xss) hs).mono ?_; rintro e w4 ⟨A4, c4, rfl, hown4, hb4⟩; have HO4 := Lib.hid hown4; have HB4 := Lib.hid hb4; clear hown4 hb4))
      go_loopw [6, 27] (fun v i wr => ∃ k : Nat, i = .int .i64 k ∧ k ≤ xss.length ∧ ∃ A' c', v = .slice A' (sumL (xss.take k)) c' ∧ Hid (wr.ownsRow w.heap.size 3 1 (.slice A' (sumL (xss.take k)) c') (sumL (xss.take k)) (ints (xss.take k).flatten)) ∧ Hid (Below w.heap.size w wr)) (fun _ i _ => xss.length - (intOf i).toNat)
      case atStart => exact ⟨0, rfl, Nat.zero_le _, A4, c4, rfl, HO4.out, HB4.out⟩
      case round =>
        clear HO4 HB4
        obtain ⟨k, rfl, hk, A', c', rfl, HO, HB⟩ := hrel
        have hle := sumL_le xss k
        by_cases hlt : k < xss.length
        · obtain ⟨b, off, hA, hc⟩ := H.out.at' (by omega)
          obtain ⟨xs, hx⟩ : ∃ xs, xss[k]? = some xs := ⟨_, List.getElem?_eq_getElem hlt⟩
          obtain ⟨Ax, cx, hv, hsl⟩ := HR.out.get hx
          subst hA
          have d0 := cell_keep HB.out (hc k _ hv)
          have hxm := hsl.nm
          have hst := sumL_take hx
          have hle2 := sumL_le xss (k + 1)
          have HT := Lib.hid hst
          have HF := Lib.hid (flatten_take hx)
          have HSL := Lib.hid (hsl.below HB.out)
          have hxl : xs.length ≤ 8589934592 := by omega
          have hsum : sumL (xss.take k) + xs.length ≤ 8589934592 := by omega
          have hsz := HB.out.size
          clear hc hx hv hsl hst hle2
          go_wp2_with ((at_builtin; refine wpList_app _ rfl _ _ 30 rfl w.heap.size 3 i0 (Value.int .i64 0) 1 8 Try.underlying30 hi hz0 hz1 hz2 rfl (by decide) (.slice A' (sumL (xss.take k)) c') (sumL (xss.take k)) (ints (xss.take k).flatten) rfl HO.out Ax xs.length cx (ints xs) rfl HSL.out (by simp [ints, Value.oneCell']) (by unfold maxLen; omega) (by omega) hsz ?_; intro A2 c2 w2 hown2 hgrow2 hat2; have HO2 := Lib.hid hown2; have HB2 := Lib.hid (HB.out.grown hgrow2 hsz (fun r hr => (HO.out.lt r hr).1)); clear hown2 hgrow2 hat2))
          go_roundw
          case rel => exact ⟨k + 1, by go_num, by omega, A2, c2, by rw [HT.out], by rw [HT.out, HF.out, ints_append]; exact HO2.out, HB2.out⟩
          case measure => simp [intOf]; omega
        · obtain rfl : k = xss.length := by omega
          rw [List.take_length] at HO
          have HL := Lib.hid (sumL_flatten xss)
          go_wp2_with fail
          go_ret
          rw [HL.out]
          exact ⟨⟨A', c', by simp, HO.out⟩, HB.out⟩
end Go.Proofs.Ytcbojlidfabgeaa
