/- The steps, as the program has them. Conditions: none. -/
import Derived.Test.YtcbojlidfabgeaaR11
namespace Go.Proofs.Ytcbojlidfabgeaa
open Go.RowKit
set_option linter.unusedVariables false
set_option linter.unusedSimpArgs false

structure Stp where
  v : Int
  a : Int
  b : Int
  added : Bool
def stepCells (l : List Stp) : List Value := l.flatMap fun s => [.int .i64 s.v, .int .i64 s.a, .int .i64 s.b, .bool s.added]
@[simp] theorem stepCells_length (l : List Stp) : (stepCells l).length = l.length * 4 := by
  induction l with
  | nil => rfl
  | cons a l ih => simp [stepCells] at ih ⊢; omega
theorem stepCells_append (xs ys : List Stp) : stepCells (xs ++ ys) = stepCells xs ++ stepCells ys := by simp [stepCells]
theorem stepCells_get {l : List Stp} {k : Nat} {s : Stp} (h : l[k]? = some s) : (stepCells l)[k*4]? = some (.int .i64 s.v) ∧ (stepCells l)[k*4+1]? = some (.int .i64 s.a) ∧ (stepCells l)[k*4+2]? = some (.int .i64 s.b) ∧ (stepCells l)[k*4+3]? = some (.bool s.added) := by
  induction l generalizing k with
  | nil => simp at h
  | cons a l ih =>
    cases k with
    | zero => simp at h; subst h; simp [stepCells]
    | succ k =>
      simp at h
      have := ih h
      have e1 : (k+1)*4 = k*4+1+1+1+1 := by omega
      rw [e1]
      simpa [stepCells] using this
theorem take_snoc_any {α : Type} {l : List α} {k : Nat} {s : α} (h : l[k]? = some s) : l.take (k + 1) = l.take k ++ [s] := by
  obtain ⟨h1, h2⟩ := List.getElem?_eq_some_iff.1 h
  rw [List.take_succ_eq_append_getElem h1, h2]
theorem info57 : (Try.prog.info? 57).map (fun i => (i.zero, i.size, i.bytes)) = some (some (.agg #[.int .i64 0, .int .i64 0, .int .i64 0, .bool false]), 4, 32) := by kernel_rfl

set_option maxHeartbeats 1600000 in
set_option maxRecDepth 100000 in
theorem ours_any (w : World) (A : Option Addr) (c : Nat) (l : List Stp) (h : Sl w A l.length c 4 (stepCells l)) :
    Calls Try.prog 18 #[.slice A l.length c] w fun e w' => ∃ v, e = .returned v ∧ w'.ownsRow w.heap.size 57 4 v (l.take 60).length (stepCells (l.take 60)) ∧ Below w.heap.size w w' := by
  have hm := h.nm
  have H := Lib.hid h
  clear h
  obtain ⟨i0, hi, hz0, hz1, hz2⟩ := info_parts info57
  go_enter Try.func18, Try.ntmps18
  go_wp2_with fail
  go_loopw [3, 4] (fun v i wr => ∃ k : Nat, i = .int .i64 k ∧ k ≤ l.length ∧ k ≤ 60 ∧ Hid (wr.ownsRow w.heap.size 57 4 v k (stepCells (l.take k))) ∧ Hid (Below w.heap.size w wr)) (fun _ i _ => 60 - (intOf i).toNat)
  case atStart => exact ⟨0, rfl, Nat.zero_le _, Nat.zero_le _, World.ownsRow_nil _ _ _ _, Below.refl _ _⟩
  case round =>
    obtain ⟨k, rfl, hk, hk6, HO, HB⟩ := hrel
    have hwz := HB.out.size
    by_cases hlt : k < l.length
    · by_cases h6 : k < 60
      · obtain ⟨b, off, hA, hc⟩ := H.out.at' (by omega)
        subst hA
        obtain ⟨s, hs⟩ : ∃ s, l[k]? = some s := ⟨_, List.getElem?_eq_getElem hlt⟩
        obtain ⟨g0, g1, g2, g3⟩ := stepCells_get hs
        have d0 := cell_keep HB.out (hc _ _ g0)
        have d1 := cell_keep HB.out (hc _ _ g1)
        have d2 := cell_keep HB.out (hc _ _ g2)
        have d3 := cell_keep HB.out (hc _ _ g3)
        simp only [← Nat.add_assoc] at d0 d1 d2 d3
        have HT := Lib.hid (take_snoc_any hs)
        clear hc hs g0 g1 g2 g3 H
        obtain ⟨sv, sa, sb, sd⟩ := s
        simp only at d0 d1 d2 d3
        go_wp2_with ((at_builtin; refine wpList_append_lies _ rfl _ _ 33 rfl w.heap.size 57 i0 _ 4 32 Try.underlying33 hi hz0 hz1 hz2 rfl (by decide) _ k (stepCells (l.take k)) rfl (HO.out.alloc _) ⟨wr.heap.size, 0, none⟩ 1 1 [.int .i64 sv, .int .i64 sa, .int .i64 sb, .bool sd] rfl rfl (World.news_of_block (cs := #[.int .i64 sv, .int .i64 sa, .int .i64 sb, .bool sd]) (t := 57) (fr := (0, 0)) (heap_alloc_new wr _)) (by simp [Value.oneCell']) (by omega) (by unfold maxLen; omega) (by omega) (by simp; omega) _ rfl ?_; intro gg cap2 w1 hown1 hgrow hat hlt2; have HO1 := Lib.hid hown1; have HGR := Lib.hid hgrow; clear hown1 hgrow hat hlt2))
        go_roundw
        case rel =>
          refine ⟨k + 1, by go_num, by omega, by omega, ?_, ?_⟩
          · rw [HT.out, stepCells_append]; exact HO1.out
          · exact below_keep HB.out hwz HGR.out (below_alloc _ _) (fun r hr => (HO.out.lt r hr).1)
        case measure => simp [intOf]; omega
      · obtain rfl : k = 60 := by omega
        go_wp2
        go_ret
        exact ⟨_, rfl, by rw [List.length_take, Nat.min_eq_left (by omega)]; exact HO.out, HB.out⟩
    · obtain rfl : k = l.length := by omega
      go_wp2
      go_ret
      refine ⟨_, rfl, ?_, HB.out⟩
      have := HO.out
      rw [List.take_length] at this
      rw [List.take_of_length_le hk6]; exact this
end Go.Proofs.Ytcbojlidfabgeaa
