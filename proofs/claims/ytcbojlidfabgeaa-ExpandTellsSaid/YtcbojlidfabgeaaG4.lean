/- graph.Has. Conditions: a right graph of at most 1000 vertices. -/
import Derived.Test.YtcbojlidfabgeaaG3
namespace Go.Proofs.Ytcbojlidfabgeaa
open Go.RowKit Go.Shelf
set_option linter.unusedVariables false
set_option linter.unusedSimpArgs false
attribute [local go_sem] Oper.semAt_some

theorem near1_stops (F : Fence) (n : Nat) (h92 : F.fn 92) (hro : F.round = none) (hn : 1 ≤ n) (gB vB N : Nat) (A : Option Addr) (c : Nat) (es : List (Int × Int)) (v : Int) (w0 : World) (hright : rightB N es = true)
    (hgl : gB < w0.heap.size) (hvl : vB < w0.heap.size) (hg : w0.cell? ⟨gB, 1, none⟩ = some (.slice A es.length c)) (hv : w0.cell? ⟨vB, 0, none⟩ = some (.int .i64 v)) (hS : Sl w0 A es.length c 2 (edgeCells es)) (m₀ oB : Nat) (hm₀ : m₀ ≤ w0.heap.size) (hvm : vB < m₀ ∧ vB ≠ oB) (hbm : 0 < es.length → ∀ b off, A = some ⟨b, off, none⟩ → b < m₀ ∧ b ≠ oB) :
    SeqStopsK F n Try.prog 92 #[.pointer (some ⟨gB, 0, none⟩), .pointer (some ⟨vB, 0, none⟩)] (fun x : Int => #[Value.int .i64 x]) (KX m₀ oB) (fun ys => ys = nbL es v) (fun pre => pre <+: nbL es v) ((nbL es v).length + 1) w0 :=
  fun l J Jx W hW hJ hJx hY h0 => near1_in F n h92 hro hn l gB vB N A c es v w0 hright J Jx hgl hvl hg hv hS m₀ oB hm₀ hvm hbm W hW hJ hJx hY h0
theorem near_in (F : Fence) (n : Nat) (h60 : F.fn 60) (hro : F.round = none) (N l : Value) (v : Int) (w : World) (hN : ∃ m : Int, N = .int .i64 m) (hl : ∃ A n c, l = .slice A n c) :
    CallsIn F n Try.prog 60 #[.agg #[N, l], .int .i64 v] w fun e w' => e = .returned (.func (.func 92) #[] #[.pointer (some ⟨w.heap.size, 0, none⟩), .pointer (some ⟨w.heap.size + 1, 0, none⟩)]) ∧ w' = (w.alloc (.cells #[N, l] 28)).alloc (.cells #[.int .i64 v] 3) := by
  obtain ⟨m, rfl⟩ := hN
  obtain ⟨A, k, c, rfl⟩ := hl
  refine callsIn_of_wp Try.func60 rfl h60 ?_ hro
  simp only [Try.ntmps60, List.size_toArray, List.length_cons, List.length_nil, Nat.reduceAdd, Nat.reduceSub, Array.replicate_succ, Array.replicate_zero, List.push_toArray, List.append_toArray, List.nil_append, List.cons_append]
  gi_wp2
  go_ret
  exact ⟨rfl, rfl⟩
theorem KX.setCell_off {m₀ oB : Nat} (W : World) (o : Nat) (u : Value) {cs : Array Value} {t : TypeId} {fr : Nat × Nat} (h : W.heap[oB]? = some (.cells cs t fr)) (ht : t ≠ 59) : KX m₀ oB W (W.setCell ⟨oB, o, none⟩ u) := by
  refine ⟨by simp, fun g cs' t' fr' hg hc => ?_⟩
  have hne : g ≠ oB := by
    rcases hc with ⟨_, h2⟩ | rfl
    · exact h2
    · intro e; subst e; rw [h] at hg; cases hg; exact ht rfl
  rw [heap_setCell_other _ _ _ _ (by simpa using hne)]
  exact hg
set_option maxRecDepth 100000 in
set_option maxHeartbeats 1600000 in
theorem GHas_ok (w : World) (N : Nat) (A : Option Addr) (c : Nat) (es : List (Int × Int)) (a b : Int) (h : Sl w A es.length c 2 (edgeCells es)) (hN : N ≤ 1000) (hright : rightB N es = true) :
    Calls Try.prog 27 #[.agg #[.int .i64 N, .slice A es.length c], .int .i64 a, .int .i64 b] w fun e w' => e = .returned (.bool (decide (b ∈ nbL es a))) ∧ Below w.heap.size w w' := by
  have hm := h.nm
  have H := Lib.hid h
  have HRT := Lib.hid hright
  clear h hright
  refine (callsIn_wide (n := 3)).1 ?_
  refine callsIn_of_wp_marks Try.func27 rfl trivial ?_ rfl
  simp only [Try.ntmps27, List.size_toArray, List.length_cons, List.length_nil, Nat.reduceAdd, Nat.reduceSub, Array.replicate_succ, Array.replicate_zero, List.push_toArray, List.append_toArray, List.nil_append, List.cons_append]
  have HB0 := Lib.hid (show Below w.heap.size w (((w.alloc (Obj.cells #[Value.int .i64 N, Value.slice A es.length c] 28)).alloc (Obj.cells #[Value.int .i64 b] 3)).alloc (Obj.cells #[Value.bool false] 4)) from below_join (below_join (below_alloc _ _) (below_alloc _ _)) (below_alloc _ _))
  gi_wp2
  obtain ⟨W0, hW0⟩ : ∃ W0, ((w.alloc (Obj.cells #[Value.int .i64 N, Value.slice A es.length c] 28)).alloc (Obj.cells #[Value.int .i64 b] 3)).alloc (Obj.cells #[Value.bool false] 4) = W0 := ⟨_, rfl⟩
  have hs0 : W0.heap.size = w.heap.size + 1 + 1 + 1 := by rw [← hW0]; simp
  have x0 : W0.heap[w.heap.size]? = some (.cells #[.int .i64 N, .slice A es.length c] 28 (0, 0)) := by
    rw [← hW0, Below.heap_alloc _ _ _ (by rw [World.size_alloc, World.size_alloc]; omega), Below.heap_alloc _ _ _ (by rw [World.size_alloc]; omega)]
    exact heap_alloc_new _ _
  have x1 : W0.heap[w.heap.size + 1]? = some (.cells #[.int .i64 b] 3 (0, 0)) := by
    rw [← hW0, Below.heap_alloc _ _ _ (by rw [World.size_alloc, World.size_alloc]; omega)]
    have := heap_alloc_new (w.alloc (Obj.cells #[Value.int .i64 N, Value.slice A es.length c] 28)) (Obj.cells #[Value.int .i64 b] 3)
    rwa [World.size_alloc] at this
  obtain ⟨c0, c1, _, _⟩ := cells2 x0
  have c2 : W0.cell? ⟨w.heap.size + 1, 0, none⟩ = some (.int .i64 b) := by rw [cell_of_row W0 _ 0 _ _ _ x1]; rfl
  have c3 : W0.heap[w.heap.size + 1 + 1]? = some (.cells #[Value.bool false] 4 (0, 0)) := by
    have := heap_alloc_new ((w.alloc (Obj.cells #[Value.int .i64 N, Value.slice A es.length c] 28)).alloc (Obj.cells #[Value.int .i64 b] 3)) (Obj.cells #[Value.bool false] 4)
    rw [← hW0]
    simpa using this
  rw [hW0] at HB0 ⊢
  clear hW0
  refine ⟨trivial, ?_⟩
  gi_at_call 51
  refine (callsIn_wide.2 (GRight_ok _ N A c es (H.out.below HB0.out) hN HRT.out)).mono ?_
  rintro e w4 ⟨rfl, hb4⟩
  have d0 := cell_keep hb4 c0
  have d1 := cell_keep hb4 c1
  have d2 := cell_keep hb4 c2
  have d3 := (hb4.block _ (by omega)).trans c3
  have hsz4 := hb4.size
  have HB4 := Lib.hid (below_join HB0.out hb4)
  clear hb4
  gi_wp2
  refine ⟨trivial, ?_⟩
  gi_at_call 60
  refine (near_in Fence.wide 2 trivial rfl _ _ a w4 ⟨_, rfl⟩ ⟨_, _, _, rfl⟩).mono ?_
  rintro e w5 ⟨rfl, hw5⟩
  have hs5 : w5.heap.size = w4.heap.size + 1 + 1 := by rw [hw5]; simp
  have HB5 := Lib.hid (show Below w.heap.size w w5 from hw5 ▸ below_join (below_join HB4.out (below_alloc _ _)) (below_alloc _ _))
  have HB45 := (show Below w4.heap.size w4 w5 from hw5 ▸ below_join (below_alloc _ _) (below_alloc _ _))
  have y0 : w5.heap[w4.heap.size]? = some (.cells #[.int .i64 N, .slice A es.length c] 28 (0, 0)) := by
    rw [hw5, Below.heap_alloc _ _ _ (by rw [World.size_alloc]; omega)]
    exact heap_alloc_new _ _
  have y1 : w5.heap[w4.heap.size + 1]? = some (.cells #[.int .i64 a] 3 (0, 0)) := by
    have := heap_alloc_new (w4.alloc (Obj.cells #[Value.int .i64 N, Value.slice A es.length c] 28)) (Obj.cells #[Value.int .i64 a] 3)
    rw [World.size_alloc] at this
    rw [hw5]; exact this
  obtain ⟨_, e0, _, _⟩ := cells2 y0
  have e1 : w5.cell? ⟨w4.heap.size + 1, 0, none⟩ = some (.int .i64 a) := by rw [cell_of_row w5 _ 0 _ _ _ y1]; rfl
  have e2 := cell_keep HB45 d2
  have e3 := (HB45.block _ (by omega)).trans d3
  have e4 : w5.cell? ⟨w.heap.size + 1 + 1, 0, none⟩ = some (.bool false) := by rw [cell_of_row w5 _ 0 _ _ _ e3]; rfl
  have e5 := frozen_of_row w5 _ 0 _ _ e3
  clear hw5 HB45
  gi_wp2
  refine wpIn_rangeFunc_ownF rfl (by omega) (gf := 92) (lb := #[.pointer (some ⟨w4.heap.size, 0, none⟩), .pointer (some ⟨w4.heap.size + 1, 0, none⟩)]) rfl trivial (enters_of Try.func92 (by kernel_rfl) rfl)
    (near1_stops Fence.wide 2 trivial rfl (by omega) w4.heap.size (w4.heap.size + 1) N A c es a w5 HRT.out (by omega) (by omega) e0 e1 (H.out.below HB5.out) w5.heap.size (w.heap.size + 1 + 1) (Nat.le_refl _) ⟨by omega, by omega⟩ (fun hpos bb oo hA => by
      obtain ⟨b', o', hA', hc'⟩ := H.out.at' hpos
      rw [hA] at hA'
      cases hA'
      obtain ⟨e, he⟩ : ∃ e, es[0]? = some e := ⟨_, List.getElem?_eq_getElem hpos⟩
      have := World.block_lt_of_cell? w _ (hc' _ _ (edgeCells_get he).1)
      simp only at this
      exact ⟨by omega, by omega⟩)) KX.trans (fun W l o o' _ h1 h2 _ => KX.putObj W l o o' h1 h2) (Below.refl _ _) (fun _ => rfl)
    (fun pre W => ((∀ y ∈ pre, y ≠ b) ∧ W.cell? ⟨w.heap.size + 1, 0, none⟩ = some (.int .i64 b) ∧ W.cell? ⟨w.heap.size + 1 + 1, 0, none⟩ = some (.bool false) ∧ W.frozen? ⟨w.heap.size + 1 + 1, 0, none⟩ = false) ∧ Below w.heap.size w W)
    (fun c pre W => (c = .ret ∧ b ∈ pre ∧ W.cell? ⟨w.heap.size + 1 + 1, 0, none⟩ = some (.bool true)) ∧ Below w.heap.size w W)
    (OwnFrom.and (Own.from (fun s A B row hs hg hr => ⟨hs.1, cell_kept hs.2.1 hg hr, cell_kept hs.2.2.1 hg hr, (frozen_kept hs.2.2.1 hg hr).trans hs.2.2.2⟩) _) (ownFrom_below (Nat.le_refl _) (by omega)))
    (fun c => OwnFrom.and (Own.from (fun s A B row hs hg hr => ⟨hs.1, hs.2.1, cell_kept hs.2.2 hg hr⟩) _) (ownFrom_below (Nat.le_refl _) (by omega)))
    ⟨⟨by simp, e2, e4, e5⟩, HB5.out⟩
    (fun x => { tmps := #[.agg #[.int .i64 N, .slice A es.length c], .int .i64 a, .int .i64 b, .pointer (some ⟨w.heap.size, 0, none⟩), undef, .pointer (some ⟨w.heap.size + 1, 0, none⟩), .pointer (some ⟨w.heap.size + 1 + 1, 0, none⟩), .int .i64 x, .agg #[.int .i64 N, .slice A es.length c], .bool true, .bool false, .agg #[.int .i64 N, .slice A es.length c], .int .i64 a, .func (.func 92) #[] #[.pointer (some ⟨w4.heap.size, 0, none⟩), .pointer (some ⟨w4.heap.size + 1, 0, none⟩)], .int .i64 x, undef, undef, undef], defers := [] }) ?assign ?body ?done ?stop
  case assign =>
    intro l x W K hK
    gi_wp2
    exact hK
  case body =>
    rintro l pre x W ⟨⟨hp, hcw, hcr, hfr⟩, hB⟩ _
    gi_wp2
    · rename_i hx
      obtain rfl : x = b := eq_of_beq hx
      exact ⟨KeepsOthers.setCell _ _ _, ⟨rfl, List.mem_append.2 (.inr (by simp)), World.cell?_setCell_same' _ _ _ (by rw [hcr]; rfl)⟩, hB.setCell (p := ⟨w.heap.size + 1 + 1, 0, none⟩) (by simp only; omega) _⟩
    · rename_i hx
      exact ⟨KeepsOthers.refl _, KX.refl _ _ _, ⟨fun y hy => (List.mem_append.1 hy).elim (hp y) (fun e e' => by simp at e; subst e; subst e'; simp at hx), hcw, hcr, hfr⟩, hB⟩
  case done =>
    rintro D ys W hD rfl ⟨⟨hne, _, hcr, hfr⟩, hB⟩ hK
    gi_wp2
    have hK' := (KeepsOthers.setCell W ⟨w.heap.size + 1 + 1, 0, none⟩ (.bool false)).same D _ hK rfl
    refine ⟨by simp, .inl ⟨_, _, rfl, run_takeDeferred hK', ?_⟩⟩
    have hc5 := cell_kept (World.cell?_setCell_same' W ⟨w.heap.size + 1 + 1, 0, none⟩ (.bool false) (by rw [hcr]; rfl)) (grownBy_putObj' _ D (.deferred none)) (fun r e => by cases e; exact ⟨_, hK', rfl⟩)
    refine ⟨.bool false, ?_, by rw [decide_eq_false (fun h => hne b h rfl)], (hB.setCell (p := ⟨w.heap.size + 1 + 1, 0, none⟩) (by simp only; omega) _).trans (belowK_b (w := w) (Nat.le_refl _) _ D _ _ (by omega) hK' rfl rfl)⟩
    simp [results, Try.f27, go_sem, hc5]
  case stop =>
    rintro D c pre W hD hpre ⟨⟨rfl, hin, hcr⟩, hB⟩ hK
    gi_wp2
    refine ⟨by simp, .inl ⟨_, _, rfl, run_takeDeferred hK, ?_⟩⟩
    have hc5 := cell_kept hcr (grownBy_putObj' _ D (.deferred none)) (fun r e => by cases e; exact ⟨_, hK, rfl⟩)
    refine ⟨.bool true, ?_, by rw [decide_eq_true (hpre.subset hin)], hB.trans (belowK_b (w := w) (Nat.le_refl _) W D _ _ (by omega) hK rfl rfl)⟩
    simp [results, Try.f27, go_sem, hc5]
end Go.Proofs.Ytcbojlidfabgeaa
