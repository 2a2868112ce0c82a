/- The program's layer 11: expander, Edge. Conditions: a right graph of at most 30 vertices, at most 1000 steps. -/
import Derived.Test.YtcbojlidfabgeaaI5
import Derived.Test.YtcbojlidfabgeaaI2
import Derived.Laws.EntriesVeiled
namespace Go.Proofs.Ytcbojlidfabgeaa
open Go.RowKit Go.WideMaps
set_option linter.unusedVariables false
set_option linter.unusedSimpArgs false

theorem steps_range {N : Nat} {es : List (Int × Int)} (hN : N ≤ 1000) (r : List Stp) (h : (replayS N (beginS N es) r.reverse).2 = true) : ∀ t ∈ r, StI t := by
  induction r with
  | nil => intro t ht; cases ht
  | cons u r ih =>
    rw [List.reverse_cons] at h
    obtain ⟨h1, h2, h3⟩ := replay_split h
    intro t ht
    rcases List.mem_cons.1 ht with rfl | ht
    · intro hadd
      obtain ⟨v, hv, hvN, hvi, hle⟩ := mayS_iff.1 h2
      rw [hv, Int.toNat_natCast] at h3
      rcases stepS_cases N _ v hle with ⟨_, g2, _⟩ | ⟨a, _, g2, _⟩ | ⟨a, b, g1, g2, _⟩
      · rw [g2] at h3; rw [← h3] at hadd; cases hadd
      · rw [g2] at h3; rw [← h3] at hadd; cases hadd
      · rw [g2] at h3
        have ha := (near_mem (N := N) (v := v) (x := a) (by rw [g1]; simp)).1
        have hb := (near_mem (N := N) (v := v) (x := b) (by rw [g1]; simp)).1
        have hs := near_sorted N (goAll N (beginS N es) r.reverse) v
        rw [g1] at hs
        have hlt : a < b := by simpa using hs
        rw [← h3]
        refine ⟨?_, ?_, ?_, by simp; omega⟩ <;> unfold InI <;> simp <;> omega
    · exact ih h1 t ht
set_option maxHeartbeats 3200000 in
set_option maxRecDepth 100000 in
theorem exp_no (w : World) (N : Nat) (A : Option Addr) (c : Nat) (es : List (Int × Int)) (As : Option Addr) (cs : Nat) (l : List Stp) (h : Sl w A es.length c 2 (edgeCells es)) (hs : Sl w As l.length cs 4 (stepCells l)) (hsp : ∀ a, As = some a → a.spot = none) (hl : l.length ≤ 1000) (hN : N ≤ 1000) (hright : rightB N es = true) (hno : (replayS N (beginS N es) l).2 = false) :
    Calls Try.prog 47 #[.agg #[.int .i64 N, .slice A es.length c], .slice As l.length cs] w fun e w' => e = .returned (.func (.func 84) #[] #[]) ∧ Below w.heap.size w w' := by
  have H := Lib.hid h
  have HSS := Lib.hid hs
  have HRT := Lib.hid hright
  have HNO := Lib.hid hno
  clear h hs hright hno
  go_enter Try.func47, Try.ntmps47
  go_wp2_with ((go_at_call 25; refine (Replay_any _ N A c es As cs l (H.out.below (below_alloc _ _)) (HSS.out.below (below_alloc _ _)) hsp hl hN HRT.out).mono ?_; rintro e w4 ⟨⟨v, rfl, A1, n1, c1, Al, cl, Ae, ce, hv, _, _⟩, hb4⟩; unfold logV at hv; subst hv; rw [HNO.out]; have HB4 := Lib.hid hb4; clear hb4))
  go_ret
  exact ⟨rfl, below_join (below_join (below_alloc _ _) HB4.out) (below_alloc _ _)⟩
set_option maxHeartbeats 3200000 in
set_option maxRecDepth 100000 in
theorem exp_yes (w : World) (N : Nat) (A : Option Addr) (c : Nat) (es : List (Int × Int)) (As : Option Addr) (cs : Nat) (l : List Stp) (h : Sl w A es.length c 2 (edgeCells es)) (hs : Sl w As l.length cs 4 (stepCells l)) (hsp : ∀ a, As = some a → a.spot = none) (hl : l.length ≤ 1000) (hN : N ≤ 1000) (hright : rightB N es = true) (hok : (replayS N (beginS N es) l).2 = true) :
    Calls Try.prog 47 #[.agg #[.int .i64 N, .slice A es.length c], .slice As l.length cs] w fun e w' => (∃ mb gb ib M n, e = .returned (.func (.func 87) #[] #[.pointer (some ⟨mb, 0, none⟩), .pointer (some ⟨gb, 0, none⟩), .pointer (some ⟨ib, 0, none⟩)]) ∧ ByP w' mb ib M n l.reverse ∧ w'.heap[gb]? = some (.cells #[.int .i64 N, .slice A es.length c] 28 (0, 0))) ∧ Below w.heap.size w w' := by
  have hsm := hs.nm
  have H := Lib.hid h
  have HSS := Lib.hid hs
  have HRT := Lib.hid hright
  have HOK := Lib.hid hok
  have HST := Lib.hid (steps_range hN l.reverse (by rwa [List.reverse_reverse]))
  have hmm := @run_makeMap Try.prog
  clear h hs hright hok
  go_enter Try.func47, Try.ntmps47
  go_wp2_with ((go_at_call 25; refine (Replay_any _ N A c es As cs l (H.out.below (below_alloc _ _)) (HSS.out.below (below_alloc _ _)) hsp hl hN HRT.out).mono ?_; rintro e w4 ⟨⟨v, rfl, A1, n1, c1, Al, cl, Ae, ce, hv, _, _⟩, hb4⟩; unfold logV at hv; subst hv; rw [HOK.out]; have hgb4 := keep_blk hb4 (heap_alloc_new w (Obj.cells #[Value.int .i64 N, Value.slice A es.length c] 28)); have HGB4 := Lib.hid hgb4; have HB4 := Lib.hid (below_join (below_alloc w _) hb4); clear hb4 hgb4))
  obtain ⟨W4, hW4⟩ : ∃ W4, w4 = W4 := ⟨_, rfl⟩
  rw [hW4] at HGB4 HB4 ⊢
  clear hW4
  go_loopw [22] (fun i wr => ∃ k : Nat, i = .int .i64 k ∧ k ≤ l.length ∧ Hid (wr.ownsMap Try.prog 59 (plainElem Try.prog 3) (W4.heap.size + 1) k (mapR (l.take k).reverse)) ∧ Hid (wr.heap[W4.heap.size + 1 + 1]? = some (.cells #[.map (some (W4.heap.size + 1))] 133 (0, 0))) ∧ Hid (Below W4.heap.size W4 wr)) (fun i _ => l.length - (intOf i).toNat)
  case atStart =>
    refine ⟨0, rfl, Nat.zero_le _, ?_, ?_, ?_⟩
    · have h1 := (World.ownsMap_made (H := Unit) (W4.alloc (.cells #[.slice A1 n1 c1, .slice Al (leftS (replayS N (beginS N es) l).1 N).length cl, .slice Ae (edgesS N (replayS N (beginS N es) l).1 N).length ce] 50)) Try.prog 59 (plainElem Try.prog 3)).alloc (.cells #[.map (some (W4.heap.size + 1))] 133)
      rw [World.size_alloc] at h1
      exact h1
    · exact (alloc3 W4 _ _ _).2.2
    · exact below_join (below_join (below_alloc _ _) (below_alloc _ _)) (below_alloc _ _)
  case round =>
    obtain ⟨k, rfl, hk, HO, HM, HL⟩ := hrel
    have m0 := cell_of_row wr _ 0 _ _ _ HM.out
    simp only [List.getElem?_toArray, List.getElem?_cons_zero] at m0
    have hml := (Array.getElem?_eq_some_iff.1 HM.out).1
    by_cases hlt : k < l.length
    · obtain ⟨b, off, hA, hc⟩ := HSS.out.at' (by omega)
      subst hA
      obtain ⟨t, ht⟩ : ∃ t, l[k]? = some t := ⟨_, List.getElem?_eq_getElem hlt⟩
      obtain ⟨g0, g1, g2, g3⟩ := stepCells_get ht
      have hlw := Lib.hid (below_join HB4.out HL.out)
      have d0 := cell_keep hlw.out (hc _ _ g0)
      have d1 := cell_keep hlw.out (hc _ _ g1)
      have d2 := cell_keep hlw.out (hc _ _ g2)
      have d3 := cell_keep hlw.out (hc _ _ g3)
      simp only [← Nat.add_assoc] at d0 d1 d2 d3
      have HT := Lib.hid (show (l.take (k + 1)).reverse = t :: (l.take k).reverse by rw [take_snoc_any ht]; simp)
      have HSI := Lib.hid (HST.out t (by rw [List.mem_reverse]; exact List.mem_of_getElem? ht))
      clear hc ht g0 g1 g2 g3
      obtain ⟨tv, ta, tb, td⟩ := t
      simp only at d0 d1 d2 d3
      cases td
      · go_wp2_with fail
        go_roundw
        case rel => exact ⟨k + 1, by go_num, by omega, by rw [HT.out]; exact (HO.out.mono (by omega)).alloc _, keep_blk (below_alloc _ _) HM.out, below_join HL.out (below_alloc _ _)⟩
        case measure => simp [intOf]; omega
      · obtain ⟨hv, ha, hb, _⟩ := HSI.out rfl
        have HKEY := Lib.hid (keyOf_edge ha hb)
        have HWF := Lib.hid hv.wf
        simp only at HKEY HWF
        clear hv ha hb
        go_wp2_with ((at_mapUpdate; refine wpList_mapUpdate_own _ rfl _ _ _ 133 rfl 59 3 keyed59 Try.underlying133 (plainElem Try.prog 3) (W4.heap.size + 1) k (mapR (l.take k).reverse) rfl (HO.out.alloc _) (by unfold maxLen; omega) _ _ (ek ta tb) rfl rfl HKEY.out (.lit (.int .i64 tv)) [] (plainElem_int Try.underlying3 HWF.out) ?_; intro w1 hown1 hgrow1; have HO1 := Lib.hid hown1; have HG1 := Lib.hid hgrow1; clear hown1 hgrow1))
        go_roundw
        case rel => exact ⟨k + 1, by go_num, by omega, by rw [HT.out]; exact HO1.out, (HG1.out.block _ (by simp; omega) (by simp)).trans (keep_blk (below_alloc _ _) HM.out), (below_join HL.out (below_alloc _ _)).grown HG1.out (by have := HL.out.size; simp; omega) (fun r hr => by cases hr; omega)⟩
        case measure => simp [intOf]; omega
    · obtain rfl : k = l.length := by omega
      rw [List.take_length] at HO
      go_wp2_with fail
      go_ret
      have hfb := below_alloc wr (.cells #[.func (.func 85) #[] #[.pointer (some ⟨W4.heap.size + 1 + 1, 0, none⟩), .pointer (some ⟨wr.heap.size, 0, none⟩)]] 134)
      have hi : (wr.alloc (.cells #[.func (.func 85) #[] #[.pointer (some ⟨W4.heap.size + 1 + 1, 0, none⟩), .pointer (some ⟨wr.heap.size, 0, none⟩)]] 134)).cell? ⟨wr.heap.size, 0, none⟩ = some (.func (.func 85) #[] #[.pointer (some ⟨W4.heap.size + 1 + 1, 0, none⟩), .pointer (some ⟨wr.heap.size, 0, none⟩)]) := by
        rw [cell_of_row _ _ 0 _ _ _ (heap_alloc_new wr _)]; rfl
      exact ⟨⟨_, _, _, _, _, rfl, ⟨cell_keep hfb m0, hi, HO.out.alloc _⟩, keep_blk hfb (keep_blk HL.out HGB4.out)⟩, below_join (below_join HB4.out HL.out) hfb⟩
set_option maxHeartbeats 1600000 in
theorem Edge_any (w : World) (N : Nat) (A : Option Addr) (c : Nat) (es : List (Int × Int)) (As : Option Addr) (cs : Nat) (l : List Stp) (a b : Int) (h : Sl w A es.length c 2 (edgeCells es)) (hs : Sl w As l.length cs 4 (stepCells l)) (hsp : ∀ a, As = some a → a.spot = none) (hl : l.length ≤ 1000) (hN : N ≤ 30) (hright : rightB N es = true) (ha : InI a) (hb : InI b) :
    Calls Try.prog 17 #[.agg #[.int .i64 N, .slice A es.length c], .slice As l.length cs, .int .i64 a, .int .i64 b] w (EdgP w (edge11S N es l a b) (decide (0 < (edge11S N es l a b).length))) := by
  have H := Lib.hid h
  have HSS := Lib.hid hs
  have HRT := Lib.hid hright
  clear h hs hright
  cases hok : (replayS N (beginS N es) l).2
  · have HE := Lib.hid (show edge11S N es l a b = [] by simp [edge11S, hok])
    have HOK := Lib.hid hok
    clear hok
    go_enter Try.func17, Try.ntmps17
    go_wp2_with (first | (go_at_call 47; refine (exp_no _ N A c es As cs l (H.out.below (below_alloc _ _)) (HSS.out.below (below_alloc _ _)) hsp hl (by omega) HRT.out HOK.out).mono ?_; rintro e w4 ⟨rfl, hb4⟩; have HB4 := Lib.hid hb4; clear hb4) | (go_at_call 84; refine (noexp_any _ a b).mono ?_; rintro e w5 ⟨⟨A5, c5, rfl, hr5⟩, hb5⟩; have HR5 := Lib.hid hr5; have HB5 := Lib.hid hb5; clear hr5 hb5))
    go_ret2
    rw [HE.out]
    exact ⟨⟨A5, c5, rfl, HR5.out⟩, below_join (below_join (below_alloc _ _) HB4.out) HB5.out⟩
  · have hI := InvR.of (right_mem HRT.out) l.reverse (by rwa [List.reverse_reverse])
    have hcn := (cnt_all (right_mem HRT.out) l.reverse (by rwa [List.reverse_reverse])).2
    have HST := Lib.hid (steps_range (N := N) (es := es) (by omega) l.reverse (by rwa [List.reverse_reverse]))
    have HG := Lib.hid hI.good
    have HE := Lib.hid (edge11_eq HRT.out hok a b)
    have HOK := Lib.hid hok
    clear hok hI
    go_enter Try.func17, Try.ntmps17
    go_wp2_with (first | (go_at_call 47; refine (exp_yes _ N A c es As cs l (H.out.below (below_alloc _ _)) (HSS.out.below (below_alloc _ _)) hsp hl (by omega) HRT.out HOK.out).mono ?_; rintro e w4 ⟨⟨mb, gb, ib, M, n, rfl, hby, hgb⟩, hb4⟩; have HBY := Lib.hid hby; have HGB := Lib.hid hgb; have HB4 := Lib.hid (below_join (below_alloc _ _) hb4); clear hb4 hby hgb) | (go_at_call 87; refine (outer_any es l.reverse HG.out HST.out (by omega) mb ib gb M n N A c a b ha hb w4 HBY.out HGB.out (H.out.below HB4.out) (by omega) HRT.out).mono ?_; rintro e w5 ⟨⟨A5, c5, rfl, hr5⟩, hb5⟩; have HR5 := Lib.hid hr5; have HB5 := Lib.hid hb5; clear hr5 hb5))
    go_ret2
    rw [HE.out]
    refine ⟨⟨A5, c5, ?_, HR5.out⟩, below_join HB4.out HB5.out⟩
    cases hh : hasR es l.reverse a b
    · rw [edgeR_none hh]; simp
    · rw [edgeR_one hh]; simp
end Go.Proofs.Ytcbojlidfabgeaa
