/- The program's layer 10: step. Conditions: at most 1000 vertices, a vertex that may go. -/
import Derived.Test.YtcbojlidfabgeaaH3
import Derived.Test.YtcbojlidfabgeaaQ4
import Derived.Outline
namespace Go.Proofs.Ytcbojlidfabgeaa
open Go.RowKit
set_option linter.unusedVariables false
set_option linter.unusedSimpArgs false

theorem drewN_some {w : World} {k : Nat} {x : Obj} (q : Nat) (h : w.heap[k]? = some x) : (w.drewN q).heap[k]? = some x := h
theorem four_sets {w : World} {g : Nat} {t : TypeId} {a b c d : Value} (h : w.heap[g]? = some (.cells #[a, b, c, d] t (0, 0))) (a' b' c' d' : Value) :
    w.cell? ⟨g, 0, none⟩ = some a ∧ w.frozen? ⟨g, 0, none⟩ = false ∧ (w.setCell ⟨g, 0, none⟩ a').cell? ⟨g, 1, none⟩ = some b ∧ (w.setCell ⟨g, 0, none⟩ a').frozen? ⟨g, 1, none⟩ = false ∧
    ((w.setCell ⟨g, 0, none⟩ a').setCell ⟨g, 1, none⟩ b').cell? ⟨g, 2, none⟩ = some c ∧ ((w.setCell ⟨g, 0, none⟩ a').setCell ⟨g, 1, none⟩ b').frozen? ⟨g, 2, none⟩ = false ∧
    (((w.setCell ⟨g, 0, none⟩ a').setCell ⟨g, 1, none⟩ b').setCell ⟨g, 2, none⟩ c').cell? ⟨g, 3, none⟩ = some d ∧ (((w.setCell ⟨g, 0, none⟩ a').setCell ⟨g, 1, none⟩ b').setCell ⟨g, 2, none⟩ c').frozen? ⟨g, 3, none⟩ = false ∧
    ((((w.setCell ⟨g, 0, none⟩ a').setCell ⟨g, 1, none⟩ b').setCell ⟨g, 2, none⟩ c').setCell ⟨g, 3, none⟩ d').heap[g]? = some (.cells #[a', b', c', d'] t (0, 0)) := by
  have H1 := heap_setCell (cs := [a, b, c, d]) (i := 0) h a'
  have H2 := heap_setCell (cs := [a', b, c, d]) (i := 1) H1 b'
  have H3 := heap_setCell (cs := [a', b', c, d]) (i := 2) H2 c'
  have H4 := heap_setCell (cs := [a', b', c', d]) (i := 3) H3 d'
  obtain ⟨x0, _, _, _⟩ := cells4 h
  obtain ⟨_, x1, _, _⟩ := cells4 (a := a') (b := b) (c := c) (d := d) H1
  obtain ⟨_, _, x2, _⟩ := cells4 (a := a') (b := b') (c := c) (d := d) H2
  obtain ⟨_, _, _, x3⟩ := cells4 (a := a') (b := b') (c := c') (d := d) H3
  exact ⟨x0, frozen_of_row w g 0 _ _ h, x1, frozen_of_row _ g 1 _ _ H1, x2, frozen_of_row _ g 2 _ _ H2, x3, frozen_of_row _ g 3 _ _ H3, H4⟩
def stpV (t : Stp) : Value := .agg #[.int .i64 t.v, .int .i64 t.a, .int .i64 t.b, .bool t.added]
theorem rowOf_in {N : Nat} {s : St} {v : Nat} (h : s.inn v = true) : rowOf N s v = nats (nearS N s v) := by simp [rowOf, h]
theorem rowOf_mem {N : Nat} {s : St} {v : Nat} {z : Int} : z ∈ rowOf N s v ↔ s.inn v = true ∧ ∃ x : Nat, z = x ∧ x < N ∧ s.inn x = true ∧ s.adj v x = true := by
  unfold rowOf
  cases h : s.inn v
  · simp
  · simp only [if_true, nats, List.mem_map, nearS, List.mem_filter, List.mem_range, Bool.and_eq_true, true_and]
    constructor
    · rintro ⟨x, h1, rfl⟩; exact ⟨x, rfl, h1.1, h1.2.1, h1.2.2⟩
    · rintro ⟨x, rfl, h1, h2, h3⟩; exact ⟨x, ⟨h1, h2, h3⟩, rfl⟩
set_option maxHeartbeats 1600000 in
set_option maxRecDepth 100000 in
theorem step_any (w : World) (base N : Nat) (s : St) (gn cn gg cg : Nat) (vs : List Value) (v : Nat) (hr : RestP w base N s gn cn gg cg vs) (hN : N ≤ 1000) (hv : v < N) (hin : s.inn v = true) (hle : (nearS N s v).length ≤ 2) :
    Calls Try.prog 54 #[restV N gn cn gg cg, .int .i64 v] w fun e w' => e = .returned (stpV (stepS N s v)) ∧ Below w.heap.size w w' := by
  have HR := Lib.hid hr
  have hc1 := hr.gone_nm
  have hc2 := hr.cap
  clear hr
  unfold restV
  obtain ⟨A, c, _, _, _, hsl, q1⟩ := HR.out.row hv
  have hrl := hsl.nm
  have hgn : gn < w.heap.size := World.block_lt_of_cell? w _ q1
  have hgn1 : gn < w.heap.size + 1 := by omega
  have hgn2 : gn < w.heap.size + 1 + 1 := by omega
  have HRO := Lib.hid (rowOf_in (N := N) hin)
  have HSL := Lib.hid hsl
  clear hsl
  rcases stepS_cases N s v hle with ⟨h1, h2, _⟩ | ⟨a, h1, h2, _⟩ | ⟨a, b, h1, h2, _⟩
  · rw [HRO.out, h1] at HSL q1 hrl
    have HST := Lib.hid (show stpV (stepS N s v) = .agg #[.int .i64 v, .int .i64 (-1), .int .i64 (-1), .bool false] by rw [h2]; rfl)
    clear h1 h2
    simp only [nats, List.map_nil, List.length_nil] at q1
    go_enter Try.func54, Try.ntmps54
    go_wp2_with fail
    refine bodyPost_ret (v := .agg #[.int .i64 v, .int .i64 (-1), .int .i64 (-1), .bool false]) (by simp [results, Try.results54, go_sem]) rfl ?_
    exact ⟨by rw [HST.out], below_join (below_join (below_alloc _ _) (below_alloc _ _)) (below_alloc _ _)⟩
  · rw [HRO.out, h1] at HSL q1 hrl
    have HST := Lib.hid (show stpV (stepS N s v) = .agg #[.int .i64 v, .int .i64 a, .int .i64 (-1), .bool false] by rw [h2]; rfl)
    obtain ⟨bA, oA, rfl, hcA⟩ := HSL.out.at' (by simp [nats])
    have a0 := hcA 0 _ rfl
    simp only [Nat.add_zero] at a0
    have hbA : bA < w.heap.size := World.block_lt_of_cell? w _ a0
    have hbA1 : bA < w.heap.size + 1 := by omega
    have hbA2 : bA < w.heap.size + 1 + 1 := by omega
    clear h1 h2 hcA
    simp only [nats, List.map_cons, List.map_nil, List.length_nil, List.length_cons] at q1 hrl
    go_enter Try.func54, Try.ntmps54
    go_wp2_with fail
    refine bodyPost_ret (v := .agg #[.int .i64 v, .int .i64 a, .int .i64 (-1), .bool false]) (by simp [results, Try.results54, go_sem]) rfl ?_
    exact ⟨by rw [HST.out], below_join (below_join (below_alloc _ _) (below_alloc _ _)) (below_alloc _ _)⟩
  · rw [HRO.out, h1] at HSL q1 hrl
    have HST := Lib.hid (show stpV (stepS N s v) = .agg #[.int .i64 v, .int .i64 a, .int .i64 b, .bool (!s.adj a b)] by rw [h2]; rfl)
    obtain ⟨bA, oA, rfl, hcA⟩ := HSL.out.at' (by simp [nats])
    have a0 := hcA 0 _ rfl
    have a1 := hcA 1 _ rfl
    simp only [Nat.add_zero] at a0
    have haN := (near_mem (N := N) (s := s) (v := v) (x := a) (by rw [h1]; simp)).1
    have haI := (near_mem (N := N) (s := s) (v := v) (x := a) (by rw [h1]; simp)).2.1
    have hbN := (near_mem (N := N) (s := s) (v := v) (x := b) (by rw [h1]; simp))
    have hbA : bA < w.heap.size := World.block_lt_of_cell? w _ a0
    have hbA1 : bA < w.heap.size + 1 := by omega
    have hbA2 : bA < w.heap.size + 1 + 1 := by omega
    obtain ⟨A2, c2, _, _, hown2, hsl2, q2⟩ := HR.out.row haN
    have HCO := Lib.hid (show (rowOf N s a).contains (b : Int) = s.adj a b by
      rw [contains_dec, Bool.eq_iff_iff, decide_eq_true_eq, rowOf_mem]
      constructor
      · rintro ⟨_, x, hx, _, _, h5⟩
        have : b = x := by omega
        rw [this]; exact h5
      · intro h5; exact ⟨haI, b, rfl, hbN.1, hbN.2.1, h5⟩)
    have HS2 := Lib.hid hsl2
    have hrl2 := rowOf_len N s a
    clear h1 h2 hcA hsl2 hown2
    simp only [nats, List.map_cons, List.map_nil, List.length_nil, List.length_cons] at q1 hrl
    go_enter Try.func54, Try.ntmps54
    go_wp2_with fail
    obtain ⟨W, hW⟩ : ∃ W, (((w.alloc (Obj.cells #[Value.slice (some ⟨gn, 0, none⟩) N cn, Value.slice (some ⟨gg, 0, none⟩) N cg] 101)).alloc (Obj.cells #[Value.int .i64 0, Value.int .i64 0, Value.int .i64 0, Value.bool false] 57)).alloc (Obj.cells #[Value.int .i64 (v : Int), Value.int .i64 (a : Int), Value.int .i64 (b : Int), Value.bool false] 57)) = W := ⟨_, rfl⟩
    obtain ⟨x0, x1, x2⟩ := alloc3 w (Obj.cells #[Value.slice (some ⟨gn, 0, none⟩) N cn, Value.slice (some ⟨gg, 0, none⟩) N cg] 101) (Obj.cells #[Value.int .i64 0, Value.int .i64 0, Value.int .i64 0, Value.bool false] 57) (Obj.cells #[Value.int .i64 (v : Int), Value.int .i64 (a : Int), Value.int .i64 (b : Int), Value.bool false] 57)
    have HB := Lib.hid (show Below w.heap.size w W from hW ▸ below_join (below_join (below_alloc _ _) (below_alloc _ _)) (below_alloc _ _))
    rw [hW] at x0 x1 x2 ⊢
    obtain ⟨b0, b1, _, _⟩ := cells2 x0
    obtain ⟨t0, t1, t2, t3⟩ := cells4 x2
    have q2' := cell_keep HB.out q2
    have HX1 := Lib.hid x1
    have HX2 := Lib.hid x2
    have n1 : (0 : Int) ≤ (a : Int) := by omega
    have n3 : (a : Int) < (N : Int) := by omega
    clear x0 x1 x2 hW q2 q1 a0 a1
    go_region_held3 (fun w' => w'.cell? ⟨w.heap.size, 0, none⟩ = some (.slice (some ⟨gn, 0, none⟩) N cn) ∧ w'.cell? ⟨w.heap.size + 1 + 1, 1, none⟩ = some (.int .i64 a) ∧ w'.cell? ⟨w.heap.size + 1 + 1, 2, none⟩ = some (.int .i64 b) ∧ w'.cell? ⟨gn, a, none⟩ = some (.slice A2 (rowOf N s a).length c2) ∧ Hid (Below W.heap.size W w')) (first | (refine ⟨?_, ?_, ?_, ?_, ?_⟩ <;> first | assumption | exact Below.refl _ _ | exact (Below.refl _ _).drew | exact below_drewN _ _ | exact below_dn (Below.refl _ _).drew _ | go_keep)) (first | (go_at_call 62; refine (BinS _ A2 c2 (rowOf N s a) (b : Int) ((HS2.out.below HB.out).below (below_drewN W 1)) (le_of_lt_pw (rowOf_sorted N s a)) (by omega)).mono ?_; rintro e w' ⟨rfl, q, rfl⟩; rw [HCO.out]))
    obtain ⟨W9, hW9⟩ : ∃ W9, W.drewN (1 + q) = W9 := ⟨_, rfl⟩
    have HB9 := Lib.hid (show Below w.heap.size w W9 from hW9 ▸ below_dn HB.out _)
    have y1 := drewN_some (1 + q) HX1.out
    have y2 := drewN_some (1 + q) HX2.out
    rw [hW9] at y1 y2 ⊢
    clear hW9 HX1 HX2 b0 b1 t0 t1 t2 t3 q2'
    have z2 := heap_setCell (cs := [Value.int .i64 (v : Int), Value.int .i64 (a : Int), Value.int .i64 (b : Int), Value.bool false]) (i := 3) y2 (.bool (!s.adj a b))
    have z1 := (heap_setCell_other W9 ⟨w.heap.size + 1 + 1, 3, none⟩ (w.heap.size + 1) (.bool (!s.adj a b)) (by simp)).trans y1
    have HZ1 := Lib.hid z1
    have HZ2 := Lib.hid z2
    have tf : W9.frozen? ⟨w.heap.size + 1 + 1, 3, none⟩ = false := frozen_of_row W9 _ 3 _ _ y2
    obtain ⟨t0, t1, t2, t3⟩ := cells4 y2
    clear y1 y2 z1 z2
    go_upto_region 9 with (fail)
    have HBT := Lib.hid (show Below w.heap.size w (W9.setCell ⟨w.heap.size + 1 + 1, 3, none⟩ (.bool (!s.adj a b))) from HB9.out.setCell (by simp; omega) _)
    obtain ⟨WT, hWT⟩ : ∃ WT, W9.setCell ⟨w.heap.size + 1 + 1, 3, none⟩ (.bool (!s.adj a b)) = WT := ⟨_, rfl⟩
    rw [hWT] at HZ1 HZ2 HBT ⊢
    clear hWT t0 t1 t2 t3 tf
    obtain ⟨t0, t1, t2, t3⟩ := cells4 (a := .int .i64 (v : Int)) (b := .int .i64 (a : Int)) (c := .int .i64 (b : Int)) (d := .bool (!s.adj a b)) HZ2.out
    obtain ⟨e0, f0, e1, f1, e2, f2, e3, f3, hend⟩ := four_sets HZ1.out (.int .i64 (v : Int)) (.int .i64 (a : Int)) (.int .i64 (b : Int)) (.bool (!s.adj a b))
    obtain ⟨r0, r1, r2, r3⟩ := cells4 hend
    clear hend
    go_wp2_with fail
    refine bodyPost_ret (v := .agg #[.int .i64 (v : Int), .int .i64 (a : Int), .int .i64 (b : Int), .bool (!s.adj a b)]) (by simp [results, Try.results54, go_sem, r0, r1, r2, r3]) rfl ?_
    exact ⟨by rw [HST.out], (((HBT.out.setCell (by simp) _).setCell (by simp) _).setCell (by simp) _).setCell (by simp) _⟩
end Go.Proofs.Ytcbojlidfabgeaa
