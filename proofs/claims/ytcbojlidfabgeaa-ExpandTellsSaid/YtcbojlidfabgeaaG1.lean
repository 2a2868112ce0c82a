/- cmp.Compare, cmp.Or, graph.compare. Conditions: none. -/
import Derived.Test.YtcbojlidfabgeaaR11c
import Derived.BigRegion
import Derived.BigQuiet
import Derived.Deep.RegionHeld3
namespace Go.Proofs.Ytcbojlidfabgeaa
open Go.RowKit
set_option linter.unusedVariables false
set_option linter.unusedSimpArgs false

def cmpI (x y : Int) : Int := if x < y then -1 else if y < x then 1 else 0
def orI : List Int → Int
  | [] => 0
  | x :: l => if x = 0 then orI l else x
theorem orI_drop {xs : List Int} {k : Nat} {x : Int} (h : xs[k]? = some x) : orI (xs.drop k) = if x = 0 then orI (xs.drop (k + 1)) else x := by
  obtain ⟨h1, h2⟩ := List.getElem?_eq_some_iff.1 h
  rw [List.drop_eq_getElem_cons h1, h2]; rfl
theorem isNaN_any (w : World) (x : Int) : Calls Try.prog 102 #[.int .i64 x] w fun e w' => e = .returned (.bool false) ∧ w' = w := by
  go_enter Try.func102, Try.ntmps102
  go_wp2
  go_ret
  simp
theorem Compare_any (w : World) (x y : Int) : Calls Try.prog 74 #[.int .i64 x, .int .i64 y] w fun e w' => e = .returned (.int .i64 (cmpI x y)) ∧ w' = w := by
  by_cases h1 : x < y
  · have hc : cmpI x y = -1 := by simp [cmpI, h1]
    rw [hc]
    go_enter Try.func74, Try.ntmps74
    go_wp2_with (first | (go_at_call 102; refine (isNaN_any _ _).mono ?_; rintro e w' ⟨rfl, rfl⟩))
    go_ret
    exact ⟨rfl, rfl⟩
  · by_cases h2 : y < x
    · have hc : cmpI x y = 1 := by simp [cmpI, h1, h2]
      rw [hc]
      go_enter Try.func74, Try.ntmps74
      go_wp2_with (first | (go_at_call 102; refine (isNaN_any _ _).mono ?_; rintro e w' ⟨rfl, rfl⟩))
      go_ret
      exact ⟨rfl, rfl⟩
    · have hc : cmpI x y = 0 := by simp [cmpI, h1, h2]
      rw [hc]
      go_enter Try.func74, Try.ntmps74
      go_wp2_with (first | (go_at_call 102; refine (isNaN_any _ _).mono ?_; rintro e w' ⟨rfl, rfl⟩))
      go_ret
      exact ⟨rfl, rfl⟩
theorem Or_any (w : World) (A : Option Addr) (c : Nat) (xs : List Int) (h : Sl w A xs.length c 1 (ints xs)) : Calls Try.prog 73 #[.slice A xs.length c] w fun e w' => e = .returned (.int .i64 (orI xs)) ∧ w' = w := by
  have hm := h.nm
  have H := Lib.hid h
  clear h
  go_enter Try.func73, Try.ntmps73
  go_wp2
  go_loop [8] (fun i => ∃ k : Nat, i = .int .i64 k ∧ k ≤ xs.length ∧ orI xs = orI (xs.drop k)) (fun i => xs.length - (intOf i).toNat)
  case atStart => exact ⟨0, rfl, Nat.zero_le _, rfl⟩
  case round =>
    obtain ⟨k, rfl, hk, heq⟩ := hrel
    have HE := Lib.hid heq
    clear heq
    by_cases hlt : k < xs.length
    · obtain ⟨b, off, hA, hc⟩ := H.out.at' (by omega)
      clear H
      subst hA
      obtain ⟨x, hx⟩ : ∃ x, xs[k]? = some x := ⟨_, List.getElem?_eq_getElem hlt⟩
      have d0 := hc k _ (ints_get hx)
      have HD := Lib.hid (orI_drop hx)
      clear hc hx
      by_cases h0 : x = 0
      · subst h0
        go_wp2
        go_round
        case rel => exact ⟨k + 1, by go_num, by omega, by rw [HE.out, HD.out]; simp⟩
        case measure => simp [intOf]; omega
      · have h0' : (x != 0) = true := by simpa using h0
        go_wp2
        go_ret
        exact ⟨by rw [HE.out, HD.out, if_neg h0]; rfl, rfl⟩
    · obtain rfl : k = xs.length := by omega
      go_wp2
      go_ret
      exact ⟨by rw [HE.out, List.drop_length]; rfl, rfl⟩
theorem sl_new (W : World) (xs : List Int) (g : Nat) (hg : W.heap.size = g) (hm : xs.length ≤ maxLen) : Sl (W.alloc (.cells (ints xs).toArray 3)).drew (some ⟨g, 0, none⟩) xs.length xs.length 1 (ints xs) := by
  subst hg
  have h : (W.alloc (.cells (ints xs).toArray 3)).drew.ownsRow 0 3 1 (.slice (some ⟨W.heap.size, 0, none⟩) xs.length xs.length) xs.length (ints xs) :=
    own_mk (cur := ints xs) (heap_alloc_new W _) (Nat.zero_le _) (Nat.le_refl _) hm (by simp) (by simp [ints, List.take_of_length_le])
  exact Sl.of_own' h
def cmpE (x y : Int × Int) : Int := orI [cmpI x.1 y.1, cmpI x.2 y.2]
set_option maxHeartbeats 1600000 in
theorem compare_any (w : World) (a b x y : Int) : Calls Try.prog 89 #[.agg #[.int .i64 a, .int .i64 b], .agg #[.int .i64 x, .int .i64 y]] w fun e w' => e = .returned (.int .i64 (cmpE (a, b) (x, y))) ∧ Below w.heap.size w w' := by
  have HC := Lib.hid (show cmpE (a, b) (x, y) = orI [cmpI a x, cmpI b y] from rfl)
  go_enter Try.func89, Try.ntmps89
  go_wp2_with fail
  obtain ⟨W, hW⟩ : ∃ W, ((w.alloc (Obj.cells #[Value.int IntKind.i64 a, Value.int IntKind.i64 b] 59)).alloc (Obj.cells #[Value.int IntKind.i64 x, Value.int IntKind.i64 y] 59)) = W := ⟨_, rfl⟩
  have hs : w.heap.size + 1 + 1 = W.heap.size := by rw [← hW]; simp
  have HB := Lib.hid (show Below w.heap.size w W from hW ▸ below_join (below_alloc _ _) (below_alloc _ _))
  have c0 : W.cell? ⟨w.heap.size, 0, none⟩ = some (.int .i64 a) := by rw [← hW]; simp
  have c1 : W.cell? ⟨w.heap.size, 1, none⟩ = some (.int .i64 b) := by rw [← hW]; simp
  have c2 : W.cell? ⟨w.heap.size + 1, 0, none⟩ = some (.int .i64 x) := by rw [← hW]; simp
  have c3 : W.cell? ⟨w.heap.size + 1, 1, none⟩ = some (.int .i64 y) := by rw [← hW]; simp
  rw [hW]
  clear hW
  go_region_held3 (fun w' => w'.cell? ⟨w.heap.size, 0, none⟩ = some (.int .i64 a) ∧ w'.cell? ⟨w.heap.size, 1, none⟩ = some (.int .i64 b) ∧ w'.cell? ⟨w.heap.size + 1, 0, none⟩ = some (.int .i64 x) ∧ w'.cell? ⟨w.heap.size + 1, 1, none⟩ = some (.int .i64 y) ∧ w.heap.size + 1 < w'.heap.size ∧ Hid (Below w.heap.size w w')) (first | (refine ⟨?_, ?_, ?_, ?_, ?_, ?_⟩ <;> first | assumption | exact HB.out.drew | exact HB.out | exact (below_join HB.out (below_alloc _ _)).drew | (simp; omega) | go_keep)) (first | (go_at_call 74; refine (Compare_any _ _ _).mono ?_; rintro e w' ⟨rfl, rfl⟩) | (go_at_call 73; refine (Or_any _ (some ⟨W.heap.size, 0, none⟩) 2 [cmpI a x, cmpI b y] (sl_new W [cmpI a x, cmpI b y] _ rfl (by unfold maxLen; simp))).mono ?_; rintro e w' ⟨rfl, rfl⟩))
  go_wp2
  go_ret
  exact ⟨by rw [HC.out]; rfl, (below_join HB.out (below_alloc _ _)).drew⟩
end Go.Proofs.Ytcbojlidfabgeaa
