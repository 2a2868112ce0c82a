/- graph.Right says yes of a right graph. Conditions: at most 1000 vertices. -/
import Derived.Test.YtcbojlidfabgeaaG1
namespace Go.Proofs.Ytcbojlidfabgeaa
open Go.RowKit
set_option linter.unusedVariables false
set_option linter.unusedSimpArgs false

theorem right_next {n : Int} {es : List (Int × Int)} (h : rightB n es = true) {m : Nat} {p q : Int × Int} (hp : es[m]? = some p) (hq : es[m + 1]? = some q) : ltEdge p q = true := by
  have := right_okAt h hq
  simp only [okAt, hq, Nat.add_sub_cancel, hp] at this
  simpa using (Bool.and_eq_true _ _ ▸ this : _ ∧ _).2
theorem lt_cmpE {p q x y : Int} (h : ltEdge (p, q) (x, y) = true) : cmpE (p, q) (x, y) = -1 := by
  simp [ltEdge] at h
  simp only [cmpE, orI, cmpI]
  by_cases h1 : p < x
  · simp [h1]
  · have h2 : p = x := by omega
    have h3 : q < y := by omega
    simp [h2, h3]
set_option maxHeartbeats 1600000 in
set_option maxRecDepth 100000 in
theorem GRight_ok (w : World) (N : Nat) (A : Option Addr) (c : Nat) (es : List (Int × Int)) (h : Sl w A es.length c 2 (edgeCells es)) (hN : N ≤ 1000) (hright : rightB N es = true) :
    Calls Try.prog 51 #[.agg #[.int .i64 N, .slice A es.length c]] w fun e w' => e = .returned (.bool true) ∧ Below w.heap.size w w' := by
  have hm := h.nm
  have hel := right_len hright
  have H := Lib.hid h
  have HRT := Lib.hid hright
  clear h hright
  have g1 : decide ((N : Int) < 0) = false := by simp
  have g2 : decide ((N : Int) > 1000) = false := by simp; omega
  have g3 : decide ((es.length : Int) > 4000) = false := by simp; omega
  go_enter Try.func51, Try.ntmps51
  go_wp2
  go_loopw [22] (fun i wr => ∃ k : Nat, i = .int .i64 k ∧ k ≤ es.length ∧ Hid (Below (w.heap.size + 1) (w.alloc (.cells #[.int .i64 N, .slice A es.length c] 28)) wr)) (fun i _ => es.length - (intOf i).toNat)
  case atStart => exact ⟨0, rfl, Nat.zero_le _, Below.refl _ _⟩
  case round =>
    obtain ⟨k, rfl, hk, HBB⟩ := hrel
    have HB := Lib.hid (show Below w.heap.size w wr from (below_alloc _ _).trans (HBB.out.mono (by omega)))
    have b0 : wr.cell? ⟨w.heap.size, 0, none⟩ = some (.int .i64 N) := by rw [HBB.out.cell (by simp)]; simp
    have b1 : wr.cell? ⟨w.heap.size, 1, none⟩ = some (.slice A es.length c) := by rw [HBB.out.cell (by simp)]; simp
    have hsz : w.heap.size < wr.heap.size := by have := HBB.out.size; simp at this; omega
    by_cases hlt : k < es.length
    · obtain ⟨be, oe, hA, hc⟩ := H.out.at' (by omega)
      clear H
      subst hA
      obtain ⟨⟨x, y⟩, he⟩ : ∃ e, es[k]? = some e := ⟨_, List.getElem?_eq_getElem hlt⟩
      obtain ⟨r1, r2, r3⟩ := right_range HRT.out he
      have d0 := cell_keep HB.out (hc _ _ (edgeCells_get he).1)
      have d1 := cell_keep HB.out (hc _ _ (edgeCells_get he).2)
      simp only [← Nat.add_assoc] at d0 d1
      have t1 : decide (x < 0) = false := by simp; omega
      have t2 : decide (x ≥ y) = false := by simp; omega
      have t3 : decide (y ≥ (N : Int)) = false := by simp; omega
      have t2' : decide (y ≤ x) = false := by simp; omega
      have t3' : decide ((N : Int) ≤ y) = false := by simp; omega
      rcases Nat.eq_zero_or_pos k with k0 | k0
      · subst k0
        clear hc he
        simp only [Nat.zero_mul, Nat.add_zero] at d0 d1
        go_wp2_with fail
        go_quiet (fail)
        go_wp2
        go_roundw
        case rel => exact ⟨1, rfl, by omega, below_dn (HBB.out.alloc (by omega) _) _⟩
        case measure => simp [intOf]; omega
      · obtain ⟨m, rfl⟩ : ∃ m, k = m + 1 := ⟨k - 1, by omega⟩
        obtain ⟨⟨p, q⟩, hp⟩ : ∃ e, es[m]? = some e := ⟨_, List.getElem?_eq_getElem (by omega)⟩
        have HCMP := Lib.hid (lt_cmpE (right_next HRT.out hp he))
        have p0 := cell_keep HB.out (hc _ _ (edgeCells_get hp).1)
        have p1 := cell_keep HB.out (hc _ _ (edgeCells_get hp).2)
        simp only [← Nat.add_assoc] at p0 p1
        have hbe : be < wr.heap.size := World.block_lt_of_cell? wr _ p0
        clear hc he hp
        have b9 : ((m : Int) + 1 > 0) := by omega
        go_wp2_with fail
        obtain ⟨W, hW⟩ : ∃ W, wr.alloc (Obj.cells #[Value.int IntKind.i64 x, Value.int IntKind.i64 y] 59) = W := ⟨_, rfl⟩
        have HW := Lib.hid (show Below wr.heap.size wr W from hW ▸ below_alloc _ _)
        have e0 := cell_keep HW.out b0
        have e1 := cell_keep HW.out b1
        have e2 : W.cell? ⟨wr.heap.size, 0, none⟩ = some (.int .i64 x) := by rw [← hW]; simp
        have e3 : W.cell? ⟨wr.heap.size, 1, none⟩ = some (.int .i64 y) := by rw [← hW]; simp
        have e4 := cell_keep HW.out p0
        have e5 := cell_keep HW.out p1
        rw [hW]
        clear hW b0 b1 d0 d1 p0 p1
        have u5 : m < es.length := by omega
        have u6 : IntKind.i64.wrap ((m : Int) + 1 - 1) = (m : Int) := (IntWalk.i64_in _ (by omega)).trans (by omega)
        have u7 : IntKind.i64.wrap (m : Int) = (m : Int) := IntWalk.i64_in _ (by omega)
        have u2 : (0 : Int) ≤ (m : Int) := by omega
        have u3 : (m : Int) < (es.length : Int) := by omega
        go_region_held3 (fun w' => w'.cell? ⟨w.heap.size, 0, none⟩ = some (.int .i64 N) ∧ w'.cell? ⟨w.heap.size, 1, none⟩ = some (.slice (some ⟨be, oe, none⟩) es.length c) ∧ w'.cell? ⟨wr.heap.size, 0, none⟩ = some (.int .i64 x) ∧ w'.cell? ⟨wr.heap.size, 1, none⟩ = some (.int .i64 y) ∧ w'.cell? ⟨be, oe + m * 2, none⟩ = some (.int .i64 p) ∧ w'.cell? ⟨be, oe + m * 2 + 1, none⟩ = some (.int .i64 q) ∧ Hid (Below wr.heap.size wr w')) (first | (refine ⟨?_, ?_, ?_, ?_, ?_, ?_, ?_⟩ <;> first | assumption | exact HW.out.drew | exact HW.out | (simp; omega) | go_keep)) (first | (go_at_call 89; refine (compare_any _ p q x y).mono ?_; rintro e w9 ⟨rfl, hb⟩; rw [HCMP.out]; have k0 := cell_keep hb e0; have k1 := cell_keep hb e1; have k2 := cell_keep hb e2; have k3 := cell_keep hb e3; have k4 := cell_keep hb e4; have k5 := cell_keep hb e5; have HBK := Lib.hid (HW.out.drew.trans (hb.mono HW.out.size)); clear hb))
        go_wp2
        go_roundw
        case rel => exact ⟨m + 1 + 1, by go_num, by omega, HBB.out.trans (HBK.out.mono (by omega))⟩
        case measure => simp [intOf]; omega
    · go_wp2
      go_ret
      exact ⟨rfl, HB.out⟩
end Go.Proofs.Ytcbojlidfabgeaa
