/- The program's layer 10: may, step. Conditions: at most 1000 vertices. -/
import Derived.Test.YtcbojlidfabgeaaG6
namespace Go.Proofs.Ytcbojlidfabgeaa
open Go.RowKit
set_option linter.unusedVariables false
set_option linter.unusedSimpArgs false

theorem alloc_get (w : World) (o : Obj) (k : Nat) : (w.alloc o).heap[k]? = if k = w.heap.size then some o else w.heap[k]? := by
  split
  · rename_i e; subst e; exact heap_alloc_new w o
  · rename_i e
    by_cases h : k < w.heap.size
    · exact Below.heap_alloc w o k h
    · rw [Array.getElem?_eq_none (by rw [World.size_alloc]; omega), Array.getElem?_eq_none (by omega)]
theorem alloc3 (w : World) (a b c : Obj) : (((w.alloc a).alloc b).alloc c).heap[w.heap.size]? = some a ∧ (((w.alloc a).alloc b).alloc c).heap[w.heap.size + 1]? = some b ∧ (((w.alloc a).alloc b).alloc c).heap[w.heap.size + 1 + 1]? = some c := by
  simp only [alloc_get, World.size_alloc]
  refine ⟨?_, ?_, ?_⟩ <;> (repeat (first | rw [if_pos trivial] | rw [if_pos (by omega)] | rw [if_neg (by omega)]))
theorem drew_get (w : World) (k : Nat) : w.drew.heap[k]? = w.heap[k]? := rfl
def rowOf (N : Nat) (s : St) (v : Nat) : List Int := if s.inn v then nats (nearS N s v) else []
theorem near_len (N : Nat) (s : St) (v : Nat) : (nearS N s v).length ≤ N := by
  unfold nearS
  have := List.length_filter_le (fun x => s.inn x && s.adj v x) (List.range N)
  simpa using this
theorem rowOf_len (N : Nat) (s : St) (v : Nat) : (rowOf N s v).length ≤ N := by
  unfold rowOf
  split
  · rw [nats_length]; exact near_len N s v
  · simp
theorem rowOf_sorted (N : Nat) (s : St) (v : Nat) : (rowOf N s v).Pairwise (· < ·) := by
  unfold rowOf
  split
  · have := near_sorted N s v
    unfold nats
    rw [List.pairwise_map]
    exact this.imp fun h => by omega
  · exact List.Pairwise.nil
section
variable {w : World} {base N : Nat} {s : St} {gn cn gg cg : Nat} {vs : List Value}
theorem RestP.row (h : RestP w base N s gn cn gg cg vs) {x : Nat} (hx : x < N) : ∃ A c, vs[x]? = some (.slice A (rowOf N s x).length c) ∧ ((rowsP N s).map ints)[x]? = some (ints (rowOf N s x)) ∧
    w.ownsRow base 3 1 (.slice A (rowOf N s x).length c) (rowOf N s x).length (ints (rowOf N s x)) ∧ Sl w A (rowOf N s x).length c 1 (ints (rowOf N s x)) ∧ w.cell? ⟨gn, x, none⟩ = some (.slice A (rowOf N s x).length c) := by
  obtain ⟨A, c, u, h1, h2, h3, h4⟩ := h.near.int hx
  have h5 := h.near.row' h2
  rw [rowsP, tab_get _ hx] at h2
  injection h2 with h2
  have h6 : rowOf N s x = u := h2
  rw [h6]
  exact ⟨A, c, h1, h5, h3, h4, h.near.cell h1⟩
theorem RestP.gone_cell (h : RestP w base N s gn cn gg cg vs) {x : Nat} (hx : x < N) : w.cell? ⟨gg, x, none⟩ = some (.bool (!s.inn x)) := by
  have := h.gone.cellAt (g := gg) x (by simpa using hx)
  rw [tab_get _ hx] at this
  exact this
theorem RestP.gone_nm (h : RestP w base N s gn cn gg cg vs) : N ≤ cg ∧ cg ≤ 9223372036854775807 := ⟨(Sl.of_own' h.gone).cap, (Sl.of_own' h.gone).capm⟩
end
set_option maxHeartbeats 1600000 in
theorem may_any (w : World) (base N : Nat) (s : St) (gn cn gg cg : Nat) (vs : List Value) (v : Int) (hr : RestP w base N s gn cn gg cg vs) (hN : N ≤ 1000) :
    Calls Try.prog 53 #[restV N gn cn gg cg, .int .i64 v] w fun e w' => e = .returned (.bool (mayS N s v)) ∧ Below w.heap.size w w' := by
  have HR := Lib.hid hr
  have hc1 := hr.gone_nm
  have hc2 := hr.cap
  clear hr
  unfold restV
  by_cases h1 : v < 0
  · have HF := Lib.hid (show mayS N s v = false by have : ¬ 0 ≤ v := by omega
                                                   simp [mayS, this])
    have h1' : decide (v ≥ 0) = false := by simp; omega
    have h1'' : decide (0 ≤ v) = false := by simp; omega
    go_enter Try.func53, Try.ntmps53
    go_wp2_with fail
    go_ret
    exact ⟨ret_bool HF.out.symm, below_alloc _ _⟩
  by_cases h2 : (N : Int) ≤ v
  · have HF := Lib.hid (show mayS N s v = false by have : ¬ v < N := by omega
                                                   simp [mayS, this])
    have h2' : decide (v < (N : Int)) = false := by simp; omega
    have h1' : (0 : Int) ≤ v := by omega
    go_enter Try.func53, Try.ntmps53
    go_wp2_with fail
    go_ret
    exact ⟨ret_bool HF.out.symm, below_alloc _ _⟩
  obtain ⟨x, rfl⟩ : ∃ x : Nat, v = x := ⟨v.toNat, by omega⟩
  have hx : x < N := by omega
  have q0 : w.cell? ⟨gg, x, none⟩ = some (.bool (!s.inn x)) := HR.out.gone_cell hx
  obtain ⟨A, c, _, _, _, hsl, q1⟩ := HR.out.row hx
  have hrl := rowOf_len N s x
  have hgg : gg < w.heap.size := World.block_lt_of_cell? w _ q0
  have hgn : gn < w.heap.size := World.block_lt_of_cell? w _ q1
  cases h3 : s.inn x
  · simp only [h3, Bool.not_false] at q0
    have HF := Lib.hid (show mayS N s x = false by simp [mayS, h3])
    clear q1 h3 hsl
    go_enter Try.func53, Try.ntmps53
    go_wp2_with fail
    go_ret
    exact ⟨ret_bool HF.out.symm, below_alloc _ _⟩
  · simp only [h3, Bool.not_true] at q0
    have HF := Lib.hid (show mayS N s x = decide ((nearS N s x).length ≤ 2) by simp [mayS, h3, hx])
    have HL := Lib.hid (show (rowOf N s x).length = (nearS N s x).length by simp [rowOf, h3, nats_length])
    clear h3 hsl
    go_enter Try.func53, Try.ntmps53
    go_wp2_with fail
    go_ret
    refine ⟨ret_bool ?_, below_alloc _ _⟩
    rw [HF.out, ← HL.out]
    by_cases h4 : (rowOf N s x).length ≤ 2
    · rw [decide_eq_true h4]; simp; omega
    · rw [decide_eq_false h4]; simp; omega
end Go.Proofs.Ytcbojlidfabgeaa
