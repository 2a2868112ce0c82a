/- The reference's layer 11: Edge. Conditions: a right graph, steps whose paths fit. -/
import Derived.Test.YtcbojlidfabgeaaR11b
namespace Go.Proofs.Ytcbojlidfabgeaa
open Go.RowKit
set_option linter.unusedVariables false
set_option linter.unusedSimpArgs false

/-- What an edge stands for, by the document: nothing, if the steps can't be done. -/
def edge11S (N : Nat) (es : List (Int × Int)) (l : List Stp) (a b : Int) : List Int := if (replayS N (beginS N es) l).2 then findS (pathsS es l) a b else []
/-- What the walks of paths ask of a graph and steps. -/
structure Fits (N : Nat) (es : List (Int × Int)) (l : List Stp) : Prop where
  right : rightB N es = true
  n : N ≤ 1000
  len : l.length ≤ 1000
  fit : (replayS N (beginS N es) l).2 = true → ∀ k, k ≤ l.length → ∀ p ∈ pathsS es (l.take k), p ≠ [] ∧ p.length ≤ 1073741824
  find : (replayS N (beginS N es) l).2 = true → ∀ k t, l[k]? = some t → t.added = true → findS (pathsS es (l.take k)) t.v t.b ≠ []
set_option maxHeartbeats 3200000 in
set_option maxRecDepth 100000 in
theorem Edge11_any (w : World) (N : Nat) (A : Option Addr) (c : Nat) (es : List (Int × Int)) (As : Option Addr) (cs : Nat) (l : List Stp) (a b : Int) (h : Sl w A es.length c 2 (edgeCells es)) (hs : Sl w As l.length cs 4 (stepCells l)) (hf : Fits N es l) :
    Calls Try.prog 19 #[.agg #[.int .i64 N, .slice A es.length c], .slice As l.length cs, .int .i64 a, .int .i64 b] w fun e w' => (∃ A1 c1, e = .returned (.tuple #[.slice A1 (edge11S N es l a b).length c1, .bool (decide (0 < (edge11S N es l a b).length))]) ∧ Sl w' A1 (edge11S N es l a b).length c1 1 (ints (edge11S N es l a b))) ∧ Below w.heap.size w w' := by
  have H := Lib.hid h
  have HSS := Lib.hid hs
  have HF := Lib.hid hf
  clear h hs hf
  have hm := H.out.nm
  cases hok : (replayS N (beginS N es) l).2
  · have HE := Lib.hid (show edge11S N es l a b = [] by simp [edge11S, hok])
    go_enter Try.func19, Try.ntmps19
    go_wp2_with ((go_at_call 48; refine (paths_any _ N A c es As cs l (H.out.below (below_alloc _ _)) (HSS.out.below (below_alloc _ _)) HF.out.len HF.out.n HF.out.right (fun h k hk => HF.out.fit h k (by omega)) HF.out.find).mono ?_; rintro e w4 ⟨⟨v, rfl, ha⟩, hb4⟩; have HB4 := Lib.hid hb4; rw [hok]; clear ha hb4))
    refine bodyPost_ret (v := .tuple #[.slice none 0 0, .bool false]) (by simp [results, Try.results19, go_sem]) rfl ?_
    rw [HE.out]
    exact ⟨⟨none, 0, rfl, ⟨rfl, Nat.le_refl _, by omega, .inl rfl⟩⟩, below_join (below_alloc _ _) HB4.out⟩
  · have HE := Lib.hid (show edge11S N es l a b = findS (pathsS es l) a b by simp [edge11S, hok])
    have HFT := Lib.hid (show ∀ p ∈ pathsS es l, p ≠ [] ∧ p.length ≤ 2147483648 from fun p hp => by
      have := HF.out.fit hok l.length (Nat.le_refl _) p (by rwa [List.take_length])
      exact ⟨this.1, by omega⟩)
    have HFL := Lib.hid (findS_len (fun p hp => (HFT.out p hp).2) a b)
    go_enter Try.func19, Try.ntmps19
    go_wp2_with (first | (go_at_call 48; refine (paths_any _ N A c es As cs l (H.out.below (below_alloc _ _)) (HSS.out.below (below_alloc _ _)) HF.out.len HF.out.n HF.out.right (fun h k hk => HF.out.fit h k (by omega)) HF.out.find).mono ?_; rintro e w4 ⟨⟨v, rfl, ha⟩, hb4⟩; have HB4 := Lib.hid hb4; rw [hok]; obtain ⟨vs, hown, hrows⟩ := ha hok; obtain ⟨Av, cv, rfl, hsl⟩ := Sl.of_own hown; have HSL := Lib.hid hsl; have HRW := Lib.hid hrows; clear ha hb4 hown hrows hsl) | (go_at_call 49; refine (find_any _ Av cv vs (pathsS es l) a b HSL.out HRW.out HFT.out).mono ?_; rintro e w7 ⟨u, rfl, hu, hb7⟩; obtain ⟨A1, c1, rfl, hs1⟩ := Sl.of_own hu; have HS1 := Lib.hid hs1; have HB7 := Lib.hid hb7; clear hu hb7 hs1))
    refine bodyPost_ret (v := .tuple #[.slice A1 (findS (pathsS es l) a b).length c1, .bool (decide (0 < (findS (pathsS es l) a b).length))]) (by simp [results, Try.results19, go_sem]) rfl ?_
    rw [HE.out]
    exact ⟨⟨A1, c1, rfl, HS1.out⟩, below_join (below_join (below_alloc _ _) HB4.out) HB7.out⟩
end Go.Proofs.Ytcbojlidfabgeaa
