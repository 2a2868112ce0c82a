/- The statements' layer 11: shown. Conditions: none. -/
import Derived.Test.YtcbojlidfabgeaaJ2
namespace Go.Proofs.Ytcbojlidfabgeaa
open Go.RowKit
set_option linter.unusedVariables false
set_option linter.unusedSimpArgs false

def ringE : List (Int × Int) := [(0, 1), (0, 3), (1, 2), (2, 3)]
def ringS : List Stp := [⟨0, 1, 3, true⟩]
theorem ring_right : rightB 4 ringE = true := by decide
theorem ring_edge : edge11S 4 ringE ringS 3 1 = [3, 0, 1] := by decide
theorem ring_none : edge11S 4 ringE [] 3 1 = [] := by decide
theorem ring_lift : lift11S 4 ringE ringS [[2, 1, 3]] = some [[2, 1, 0, 3]] := by decide
set_option maxHeartbeats 3200000 in
set_option maxRecDepth 100000 in
theorem shown_any (w : World) : Calls Try.prog 15 #[] w fun e w' => e = .returned (.bool true) ∧ Below w.heap.size w w' := by
  go_enter Try.func15, Try.ntmps15
  go_upto_region 3 with (fail)
  obtain ⟨q0, q1, q2⟩ := alloc3 w (Obj.cells #[.int .i64 0, .int .i64 1, .int .i64 0, .int .i64 3, .int .i64 1, .int .i64 2, .int .i64 2, .int .i64 3] 59) (Obj.cells #[.int .i64 4, .slice (some ⟨w.heap.size, 0, none⟩) 4 4] 28) (Obj.cells #[.int .i64 0, .int .i64 1, .int .i64 3, .bool true] 57)
  obtain ⟨W, hW⟩ : ∃ W, (((w.alloc (Obj.cells #[.int .i64 0, .int .i64 1, .int .i64 0, .int .i64 3, .int .i64 1, .int .i64 2, .int .i64 2, .int .i64 3] 59)).alloc (Obj.cells #[.int .i64 4, .slice (some ⟨w.heap.size, 0, none⟩) 4 4] 28)).alloc (Obj.cells #[.int .i64 0, .int .i64 1, .int .i64 3, .bool true] 57)) = W := ⟨_, rfl⟩
  have hbW : Below w.heap.size w W := hW ▸ below_join (below_join (below_alloc _ _) (below_alloc _ _)) (below_alloc _ _)
  rw [hW] at q0 q1 q2 ⊢
  have HB := Lib.hid hbW
  have HQ1 := Lib.hid q1
  have hE : Sl W (some ⟨w.heap.size, 0, none⟩) 4 4 2 (edgeCells ringE) := Sl.of_own' (own_mk (base := 0) (n := 4) (cur := edgeCells ringE) q0 (Nat.zero_le _) (Nat.le_refl _) (by unfold maxLen; omega) rfl rfl)
  have hS : Sl W (some ⟨w.heap.size + 1 + 1, 0, none⟩) 1 1 4 (stepCells ringS) := Sl.of_own' (own_mk (base := 0) (n := 1) (cur := stepCells ringS) q2 (Nat.zero_le _) (Nat.le_refl _) (by unfold maxLen; omega) rfl rfl)
  have HE := Lib.hid hE
  have HS := Lib.hid hS
  obtain ⟨g0, g1, _, _⟩ := cells2 q1
  clear hW hbW q0 q1 q2 hE hS
  have i3 : InI 3 := by unfold InI; omega
  have i1 : InI 1 := by unfold InI; omega
  have h1 := Edge_any W 4 (some ⟨w.heap.size, 0, none⟩) 4 ringE (some ⟨w.heap.size + 1 + 1, 0, none⟩) 1 ringS 3 1 HE.out HS.out (fun a ha => by cases ha; rfl) (by decide) (by decide) ring_right i3 i1
  rw [ring_edge] at h1
  have H1 := Lib.hid h1
  clear h1
  go_wp2_with fail
  refine H1.out.mono ?_
  rintro e w4 ⟨⟨A4, c4, rfl, hr4⟩, hb4⟩
  have g0 := cell_keep hb4 g0
  have g1 := cell_keep hb4 g1
  have HR4 := Lib.hid hr4
  have HB4 := Lib.hid hb4
  clear hr4 hb4 H1
  have h2 := Edge_any w4 4 (some ⟨w.heap.size, 0, none⟩) 4 ringE none 0 [] 3 1 (HE.out.below HB4.out) ⟨rfl, Nat.le_refl _, by omega, .inl rfl⟩ (fun a ha => by cases ha) (by decide) (by decide) ring_right i3 i1
  rw [ring_none] at h2
  have H2 := Lib.hid h2
  clear h2
  go_wp2_with fail
  refine H2.out.mono ?_
  rintro e w5 ⟨⟨A5, c5, rfl, hr5⟩, hb5⟩
  have g0 := cell_keep hb5 g0
  have g1 := cell_keep hb5 g1
  have HB5 := Lib.hid (below_join HB4.out hb5)
  have HB45 := Lib.hid hb5
  clear hr5 hb5 H2
  go_wp2_with fail
  obtain ⟨u0, u1⟩ := alloc2 w5 (Obj.cells #[.int .i64 2, .int .i64 1, .int .i64 3] 3) (Obj.cells #[.slice (some ⟨w5.heap.size, 0, none⟩) 3 3] 30)
  obtain ⟨W7, hW7⟩ : ∃ W7, (w5.alloc (Obj.cells #[.int .i64 2, .int .i64 1, .int .i64 3] 3)).alloc (Obj.cells #[.slice (some ⟨w5.heap.size, 0, none⟩) 3 3] 30) = W7 := ⟨_, rfl⟩
  have hb7 : Below w5.heap.size w5 W7 := hW7 ▸ below_join (below_alloc _ _) (below_alloc _ _)
  rw [hW7] at u0 u1 ⊢
  have HB7 := Lib.hid (below_join HB5.out hb7)
  have HB47 := Lib.hid (below_join HB45.out hb7)
  have hrow : RowT W7 (.slice (some ⟨w5.heap.size, 0, none⟩) 3 3) [2, 1, 3] := RowT.of_own (base := 0) (n := 3) (own_mk (cur := ints [2, 1, 3]) u0 (Nat.zero_le _) (Nat.le_refl _) (by unfold maxLen; omega) rfl rfl)
  have hps : Sl W7 (some ⟨w5.heap.size + 1, 0, none⟩) 1 1 1 [.slice (some ⟨w5.heap.size, 0, none⟩) 3 3] := Sl.of_own' (own_mk (base := 0) (n := 1) (cur := [.slice (some ⟨w5.heap.size, 0, none⟩) 3 3]) u1 (Nat.zero_le _) (Nat.le_refl _) (by unfold maxLen; omega) rfl rfl)
  have hsub : SubAt W7 (subV 7 none 0 0 (some ⟨w5.heap.size + 1, 0, none⟩) 1 1) 7 [] [[2, 1, 3]] := ⟨none, 0, _, 1, _, rfl, ⟨rfl, Nat.le_refl _, by omega, .inl rfl⟩, hps, (RowsIn.nil W7).snoc hrow⟩
  have h3 := Lift_any W7 4 (some ⟨w.heap.size, 0, none⟩) 4 ringE (some ⟨w.heap.size + 1 + 1, 0, none⟩) 1 ringS 7 _ [] [[2, 1, 3]] (HE.out.below HB7.out) (HS.out.below HB7.out) (fun a ha => by cases ha; rfl) (by decide) (by decide) ring_right hsub (by decide) (by decide) (by intro p hp; simp at hp; subst hp; refine ⟨by simp, ?_⟩; intro x hx; simp at hx; unfold InI; omega)
  rw [ring_lift] at h3
  have H3 := Lib.hid h3
  clear h3 hW7 u0 u1 hrow hps hsub hb7
  refine H3.out.mono ?_
  rintro e w8 ⟨⟨v, he, At, ct, Ap, cp, vs, hv, _, hp8, hr8⟩, hb8⟩
  unfold subV at hv
  subst hv
  subst he
  obtain ⟨Ar, cr, hvr, hsr⟩ := hr8.get (i := 0) (xs := [2, 1, 0, 3]) rfl
  obtain ⟨bp, op, rfl, hcp⟩ := hp8.at' (by decide)
  obtain ⟨br, or', rfl, hcr⟩ := hsr.at' (by decide)
  have k0 := hcp 0 _ hvr
  have k2 := hcr 2 (.int .i64 0) rfl
  simp only [Nat.add_zero] at k0
  have hbp : bp < w8.heap.size := World.block_lt_of_cell? w8 _ k0
  have hbr : br < w8.heap.size := World.block_lt_of_cell? w8 _ k2
  have HB48 := Lib.hid (below_join HB7.out hb8)
  obtain ⟨b4, o4, hA4, hc4⟩ := (RowT.sl HR4.out).2.at' (by decide)
  subst hA4
  have HBX := Lib.hid (below_join HB47.out hb8)
  have e0 := cell_keep HBX.out (hc4 0 (.int .i64 3) rfl)
  have e1 := cell_keep HBX.out (hc4 1 (.int .i64 0) rfl)
  simp only [Nat.add_zero] at e0
  have hb4 : b4 < w8.heap.size := World.block_lt_of_cell? w8 _ e0
  have hl : [[(2 : Int), 1, 0, 3]].length = 1 := rfl
  have hl4 : [(2 : Int), 1, 0, 3].length = 4 := rfl
  clear hp8 hr8 hb8 hvr hsr hcp hcr hc4
  go_wp2_with fail
  go_ret
  exact ⟨rfl, below_join HB.out (below_join HB48.out (below_alloc _ _))⟩
end Go.Proofs.Ytcbojlidfabgeaa
