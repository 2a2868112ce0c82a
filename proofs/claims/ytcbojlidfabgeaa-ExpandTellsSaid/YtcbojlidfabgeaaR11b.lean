/- The reference's layer 11: paths. Conditions: a right graph, at most 1000 steps; the paths fit, none that is joined is missing. -/
import Derived.Test.YtcbojlidfabgeaaR10e
import Derived.StillTailTactics
namespace Go.Proofs.Ytcbojlidfabgeaa
open Go.RowKit
set_option linter.unusedVariables false
set_option linter.unusedSimpArgs false

def stepPaths (all : List (List Int)) (t : Stp) : List (List Int) := if t.added then all ++ [findS all t.a t.v ++ (findS all t.v t.b).drop 1] else all
def edgePaths (es : List (Int × Int)) : List (List Int) := es.map fun e => [e.1, e.2]
def pathsS (es : List (Int × Int)) (l : List Stp) : List (List Int) := l.foldl stepPaths (edgePaths es)
theorem pathsS_snoc (es : List (Int × Int)) (l : List Stp) (t : Stp) : pathsS es (l ++ [t]) = stepPaths (pathsS es l) t := by simp [pathsS]
/-- A list of rows of the call's own. -/
def AllIn (w : World) (base : Nat) (v : Value) (xss : List (List Int)) : Prop := ∃ vs, w.ownsRow base 30 1 v xss.length vs ∧ RowsIn w vs xss
theorem AllIn.below {w w' : World} {base : Nat} {v : Value} {xss : List (List Int)} (h : AllIn w base v xss) (hb : Below w.heap.size w w') : AllIn w' base v xss := by
  obtain ⟨vs, h1, h2⟩ := h
  exact ⟨vs, own_below h1 hb, h2.below hb⟩
theorem AllIn.mono {w : World} {base base' : Nat} {v : Value} {xss : List (List Int)} (h : AllIn w base v xss) (hb : base' ≤ base) : AllIn w base' v xss := by
  obtain ⟨vs, h1, h2⟩ := h
  exact ⟨vs, own_mono h1 hb, h2⟩
theorem pathsS_len (es : List (Int × Int)) (l : List Stp) : (pathsS es l).length ≤ es.length + l.length := by
  have key : ∀ (l : List Stp) (a : List (List Int)), (l.foldl stepPaths a).length ≤ a.length + l.length := by
    intro l
    induction l with
    | nil => intro a; simp
    | cons t l ih =>
      intro a
      have h1 := ih (stepPaths a t)
      have h2 : (stepPaths a t).length ≤ a.length + 1 := by unfold stepPaths; split <;> simp
      simp only [List.foldl_cons, List.length_cons]
      omega
  have := key l (edgePaths es)
  simpa [pathsS, edgePaths] using this
theorem AllIn.nil (w : World) (base : Nat) : AllIn w base (.slice none 0 0) [] := ⟨[], World.ownsRow_nil _ _ _ _, RowsIn.nil w⟩
/-- Behind an append of one row. -/
theorem allIn_next {wr W w1 : World} {base : Nat} {v v' u : Value} {xss : List (List Int)} {vs : List Value} {p : List Int} (h1 : wr.ownsRow base 30 1 v xss.length vs) (h2 : RowsIn wr vs xss) (hb : Below wr.heap.size wr W)
    (hu : RowT W u p) (hg : W.grownBy w1 v.ownBlock) (ho : w1.ownsRow base 30 1 v' (xss.length + 1) (vs ++ [u])) : AllIn w1 base v' (xss ++ [p]) := by
  refine ⟨vs ++ [u], by simpa using ho, (h2.keep hb hg (own_no_ints h1 (by decide))).snoc ?_⟩
  exact hu.keep (Below.refl _ _) hg (own_no_ints (own_below h1 hb) (by decide))

theorem alloc_snd (w : World) (o1 o2 : Obj) : ((w.alloc o1).alloc o2).drew.heap[w.heap.size + 1]? = some o2 := by
  have := heap_alloc_new (w.alloc o1) o2
  rw [World.size_alloc] at this
  exact this
theorem alloc_fst (w : World) (o1 o2 : Obj) : ((w.alloc o1).alloc o2).drew.heap[w.heap.size]? = some o1 := by
  have := Below.heap_alloc (w.alloc o1) o2 w.heap.size (by rw [World.size_alloc]; omega)
  exact this.trans (heap_alloc_new w o1)
theorem Sl.drop1 {w : World} {A ao : Option Addr} {n c l : Nat} {vs : List Value} (h : Sl w A n c 1 vs) (hl : l ≤ n) (hao : ∀ g o, A = some ⟨g, o, none⟩ → c ≠ l → ao = some ⟨g, o + l, none⟩) : Sl w ao (n - l) (c - l) 1 (vs.drop l) := by
  refine ⟨by rw [List.length_drop, h.len]; omega, by have := h.cap; omega, by have := h.capm; omega, ?_⟩
  by_cases hn : n = l
  · exact .inl (by omega)
  · obtain ⟨b, off, hA, hc⟩ := h.at' (by omega)
    refine .inr ⟨b, off + l, hao b off hA (by have := h.cap; omega), fun j v hv => ?_⟩
    rw [List.getElem?_drop] at hv
    have := hc _ _ hv
    rwa [show off + l + j = off + (l + j) by omega]
theorem findS_len {xss : List (List Int)} {m : Nat} (h : ∀ p ∈ xss, p.length ≤ m) (a b : Int) : (findS xss a b).length ≤ m := by
  induction xss with
  | nil => simp [findS]
  | cons p l ih =>
    have h1 := h p (by simp)
    have h2 := ih fun q hq => h q (by simp [hq])
    unfold findS
    split
    · exact h1
    · split
      · rw [List.length_reverse]; exact h1
      · exact h2
theorem ints_drop (p : List Int) (k : Nat) : (ints p).drop k = ints (p.drop k) := by simp [ints]
theorem right_len {n : Int} {es : List (Int × Int)} (h : rightB n es = true) : es.length ≤ 4000 := by
  simp [rightB] at h; omega
set_option maxHeartbeats 3200000 in
set_option maxRecDepth 100000 in
theorem paths_any (w : World) (N : Nat) (A : Option Addr) (c : Nat) (es : List (Int × Int)) (As : Option Addr) (cs : Nat) (l : List Stp) (h : Sl w A es.length c 2 (edgeCells es)) (hs : Sl w As l.length cs 4 (stepCells l)) (hl : l.length ≤ 1000) (hN : N ≤ 1000) (hright : rightB N es = true)
    (hfit : (replayS N (beginS N es) l).2 = true → ∀ k, k < l.length → ∀ p ∈ pathsS es (l.take k), p ≠ [] ∧ p.length ≤ 1073741824)
    (hfind : (replayS N (beginS N es) l).2 = true → ∀ k t, l[k]? = some t → t.added = true → findS (pathsS es (l.take k)) t.v t.b ≠ []) :
    Calls Try.prog 48 #[.agg #[.int .i64 N, .slice A es.length c], .slice As l.length cs] w fun e w' => (∃ v, e = .returned (.tuple #[v, .bool (replayS N (beginS N es) l).2]) ∧ ((replayS N (beginS N es) l).2 = true → AllIn w' w.heap.size v (pathsS es l))) ∧ Below w.heap.size w w' := by
  have hm := h.nm
  have hsm := hs.nm
  have hsc := hs.cap
  have hscm := hs.capm
  have hel := right_len hright
  have H := Lib.hid h
  have HSS := Lib.hid hs
  have HFIT := Lib.hid hfit
  have HFIND := Lib.hid hfind
  have HRT := Lib.hid hright
  clear h hs hfit hfind hright
  obtain ⟨i0, hi, hz0, hz1, hz2⟩ := info_parts info3
  obtain ⟨i1, hj, hy0, hy1, hy2⟩ := info_parts info30
  go_enter Try.func48, Try.ntmps48
  cases hok : (replayS N (beginS N es) l).2
  · go_wp2_with (first | (go_at_call 88; refine (Replay10_any _ N A c es As cs l (H.out.below (below_alloc _ _)) (HSS.out.below (below_alloc _ _)) hl hN HRT.out).mono ?_; rintro e w4 ⟨⟨A1, A2, A3, n1, n2, n3, c1, c2, c3, rfl⟩, hb4⟩; have HB4 := Lib.hid hb4; clear hb4; rw [hok]))
    refine bodyPost_ret (v := .tuple #[.slice none 0 0, .bool false]) (by simp [results, Try.results48, go_sem]) rfl ?_
    exact ⟨⟨_, rfl, fun h => Bool.noConfusion h⟩, below_join (below_join (below_alloc _ _) HB4.out) (below_alloc _ _)⟩
  · have HOK := Lib.hid hok
    go_wp2_with (first | (go_at_call 88; refine (Replay10_any _ N A c es As cs l (H.out.below (below_alloc _ _)) (HSS.out.below (below_alloc _ _)) hl hN HRT.out).mono ?_; rintro e w4 ⟨⟨A1, A2, A3, n1, n2, n3, c1, c2, c3, rfl⟩, hb4⟩; have HB4 := Lib.hid hb4; clear hb4; rw [HOK.out]))
    obtain ⟨w5, hw5⟩ : ∃ w5 : World, w4.alloc (Obj.cells #[Value.slice A1 n1 c1, Value.slice A2 n2 c2, Value.slice A3 n3 c3] 137) = w5 := ⟨_, rfl⟩
    rw [hw5]
    have HB5 := Lib.hid (show Below w.heap.size w w5 from hw5 ▸ below_join (below_join (below_alloc _ _) HB4.out) (below_alloc _ _))
    have hbx : w5.heap[w.heap.size]? = some (.cells #[.int .i64 N, .slice A es.length c] 28 (0, 0)) := by
      subst hw5
      rw [Below.heap_alloc _ _ _ (by have := HB4.out.size; simp at this; omega), HB4.out.block _ (by simp)]
      exact heap_alloc_new _ _
    have HBX := Lib.hid hbx
    clear hw5 HB4 hbx
    go_loopw [6, 9] (fun v i wr => ∃ k : Nat, i = .int .i64 k ∧ k ≤ es.length ∧ Hid (AllIn wr w5.heap.size v ((edgePaths es).take k)) ∧ Hid (Below w5.heap.size w5 wr)) (fun _ i _ => es.length - (intOf i).toNat)
    case atStart => exact ⟨0, rfl, Nat.zero_le _, AllIn.nil _ _, Below.refl _ _⟩
    case round =>
      obtain ⟨k, rfl, hk, HA, HB⟩ := hrel
      have hsz5 := (Array.getElem?_eq_some_iff.1 HBX.out).1
      have HLOW := Lib.hid (show Below w.heap.size w wr from below_join HB5.out HB.out)
      obtain ⟨p0, p1, _, _⟩ := cells2 ((HB.out.block _ (by omega)).trans HBX.out)
      have hwz := HB.out.size
      by_cases hlt : k < es.length
      · obtain ⟨be, oe, hAe, hce⟩ := H.out.at' (by omega)
        subst hAe
        obtain ⟨⟨x, y⟩, he⟩ : ∃ e, es[k]? = some e := ⟨_, List.getElem?_eq_getElem hlt⟩
        have d0 := cell_keep HLOW.out (hce _ _ (edgeCells_get he).1)
        have d1 := cell_keep HLOW.out (hce _ _ (edgeCells_get he).2)
        simp only [← Nat.add_assoc] at d0 d1
        have HE := Lib.hid he
        have HT := Lib.hid (show (edgePaths es).take (k + 1) = (edgePaths es).take k ++ [[x, y]] from take_snoc_any (by simp [edgePaths, he]))
        have hal : ((edgePaths es).take k).length = k := by simp [edgePaths]; omega
        generalize (edgePaths es).take k = xss at *
        subst hal
        obtain ⟨vs, hown, hrows⟩ := HA.out
        obtain ⟨Av, cv, rfl, _⟩ := Sl.of_own hown
        have HO := Lib.hid hown
        have HRW := Lib.hid hrows
        clear hce he hown hrows HA
        go_wp2_with fail
        go_region_law (first | (refine step_append_lies _ (by rfl) _ _ _ (by rfl) w5.heap.size 30 i1 _ 1 24 Try.underlying38 hj hy0 hy1 hy2 rfl (by omega) (.slice Av xss.length cv) xss.length vs (by rfl) (((HO.out.alloc _).alloc _).drew) ⟨wr.heap.size + 1, 0, none⟩ 1 1 [.slice (some ⟨wr.heap.size, 0, none⟩) 2 2] (by rfl) (by rfl) (World.news_of_block (cs := #[.slice (some ⟨wr.heap.size, 0, none⟩) 2 2]) (t := 30) (fr := (0, 0)) (alloc_snd wr _ _)) (by simp [Value.oneCell']) (by omega) (by unfold maxLen; omega) (by omega) (by simp; omega) (wr.heap.size + 2) (by simp) ?_; intro gg cap w1 hown1 hgrow hat hlt'; have HO1 := Lib.hid hown1; have HGR := Lib.hid hgrow; clear hown1 hgrow hat hlt'))
        all_goals go_wp2
        all_goals go_roundw
        all_goals first
          | (case measure => simp [intOf]; omega)
          | skip
        all_goals
          refine ⟨xss.length + 1, by go_num, by omega, ?_, below_keep HB.out hwz HGR.out (((below_join (below_alloc _ _) (below_alloc _ _))).drew) (fun r hr => by have := HO.out.lt r hr; omega)⟩
          rw [HT.out]
          refine Lib.hid (allIn_next HO.out HRW.out ((below_join (below_alloc _ _) (below_alloc _ _)).drew) ?_ HGR.out HO1.out)
          exact RowT.of_own (base := 0) (n := 2) (own_mk (cur := [.int .i64 x, .int .i64 y]) (alloc_fst wr _ _) (by omega) (Nat.le_refl _) (by unfold maxLen; omega) rfl rfl)
      · have hkk : (edgePaths es).take k = edgePaths es := List.take_of_length_le (by simp [edgePaths]; omega)
        rw [hkk] at HA
        clear hkk HBX HLOW
        obtain ⟨w6, hw6⟩ : ∃ w6 : World, w6 = wr := ⟨_, rfl⟩
        have HLOW6 := Lib.hid (show Below w.heap.size w wr from below_join HB5.out HB.out)
        clear HB HB5
        go_wp2_with fail
        clear p0 p1 hlt hk
        go_loopw [6, 10] (fun v i wq => ∃ k : Nat, i = .int .i64 k ∧ k ≤ l.length ∧ Hid (AllIn wq w.heap.size v (pathsS es (l.take k))) ∧ Hid (Below w.heap.size w wq)) (fun _ i _ => l.length - (intOf i).toNat)
        case atStart => exact ⟨0, rfl, Nat.zero_le _, Lib.hid (by simpa [pathsS] using HA.out.mono (by omega)), HLOW6⟩
        case round =>
          clear HLOW6 hwz hsz5 HA
          obtain ⟨k, rfl, hk, HA, HB⟩ := hrel
          have hwz := HB.out.size
          by_cases hlt : k < l.length
          · obtain ⟨b, off, hA, hc⟩ := HSS.out.at' (by omega)
            subst hA
            obtain ⟨t, ht⟩ : ∃ t, l[k]? = some t := ⟨_, List.getElem?_eq_getElem hlt⟩
            obtain ⟨g0, g1, g2, g3⟩ := stepCells_get ht
            have d0 := cell_keep HB.out (hc _ _ g0)
            have d1 := cell_keep HB.out (hc _ _ g1)
            have d2 := cell_keep HB.out (hc _ _ g2)
            have d3 := cell_keep HB.out (hc _ _ g3)
            simp only [← Nat.add_assoc] at d0 d1 d2 d3
            have HT := Lib.hid (show pathsS es (l.take (k + 1)) = stepPaths (pathsS es (l.take k)) t by rw [take_snoc_any ht, pathsS_snoc])
            have hxl : (pathsS es (l.take k)).length ≤ 5000 := by
              have := pathsS_len es (l.take k)
              rw [List.length_take] at this
              omega
            have HFT := Lib.hid (HFIT.out HOK.out k hlt)
            have HFD := Lib.hid (HFIND.out HOK.out k t ht)
            clear hc ht g0 g1 g2 g3
            obtain ⟨tv, ta, tb, td⟩ := t
            simp only at d0 d1 d2 d3
            generalize pathsS es (l.take k) = xss at *
            obtain ⟨vs, hown, hrows⟩ := HA.out
            obtain ⟨Av, cv, rfl, hsl⟩ := Sl.of_own hown
            have HO := Lib.hid hown
            have HRW := Lib.hid hrows
            have HSL := Lib.hid hsl
            clear hown hrows HA hsl
            cases td
            · go_wp2_with fail
              go_roundw
              case rel => exact ⟨k + 1, by go_num, by omega, by rw [HT.out]; exact Lib.hid ⟨vs, HO.out, HRW.out⟩, HB⟩
              case measure => simp [intOf]; omega
            · go_wp2_with fail
              have HFP := Lib.hid (show ∀ p ∈ xss, p ≠ [] ∧ p.length ≤ 2147483648 from fun p hp => ⟨(HFT.out p hp).1, by have := (HFT.out p hp).2; omega⟩)
              have hlen1 := findS_len (fun p hp => (HFT.out p hp).2) ta tv
              have hlen2 := findS_len (fun p hp => (HFT.out p hp).2) tv tb
              have hne2 : 0 < (findS xss tv tb).length := List.length_pos_iff.2 (HFD.out (by simp))
              have HTT := Lib.hid (show pathsS es (l.take (k + 1)) = xss ++ [findS xss ta tv ++ (findS xss tv tb).drop 1] from HT.out)
              clear HT
              go_still_tail 11, (by kernel_rfl)
              change wpList _ _ _ _ _ wr.drew
              obtain ⟨wd, hwd⟩ : ∃ wd, wr.drew = wd := ⟨_, rfl⟩
              have HBD := Lib.hid (show Below wr.heap.size wr wd from hwd ▸ (Below.refl _ _).drew)
              rw [hwd]
              clear hwd d3
              go_wp2_with ((go_at_call 49; refine (find_any _ Av cv vs xss ta tv (HSL.out.below HBD.out) (HRW.out.below HBD.out) HFP.out).mono ?_; rintro e w7 ⟨u, rfl, hu, hb7⟩; obtain ⟨A1, c1, rfl, _⟩ := Sl.of_own hu; have HU := Lib.hid hu; have HB7 := Lib.hid (below_join HBD.out hb7); have f0 := cell_keep HB7.out d0; have f1 := cell_keep HB7.out d1; have f2 := cell_keep HB7.out d2; have hwd7 := hb7.size; clear hu hb7))
              go_still_tail 11, (by kernel_rfl)
              change wpList _ _ _ _ _ w7.drew
              obtain ⟨we, hwe⟩ : ∃ we, w7.drew = we := ⟨_, rfl⟩
              have HBE := Lib.hid (show Below w7.heap.size w7 we from hwe ▸ (Below.refl _ _).drew)
              rw [hwe]
              clear hwe
              have hlow7 := HB7.out.size
              have hlowd := HBD.out.size
              have HBE7 := Lib.hid (HB7.out.trans (HBE.out.mono HB7.out.size))
              go_wp2_with (first | (at_builtin; refine wpList_app _ rfl _ _ 30 rfl wd.heap.size 3 i0 (Value.int .i64 0) 1 8 Try.underlying30 hi hz0 hz1 hz2 rfl (by decide) (.slice A1 (findS xss ta tv).length c1) (findS xss ta tv).length (ints (findS xss ta tv)) rfl HU8.out ao ((findS xss tv tb).length - 1) (c2 - 1) ((ints (findS xss tv tb)).drop 1) rfl HS8.out (fun u hu => by obtain ⟨y, _, rfl⟩ := List.mem_map.1 (List.mem_of_mem_drop hu); rfl) (by unfold maxLen; omega) (by omega) (by omega) ?_; intro A9 c9 w9 hown9 hgrow9 hob9; have HB9 := Lib.hid (HB8.out.grown hgrow9 HB8.out.size (fun r hr => by have := HU8.out.lt r hr; omega)); have hlow9 := HB9.out.size; have HR9 := Lib.hid (show RowT w9 (.slice A9 ((findS xss ta tv).length + ((findS xss tv tb).length - 1)) c9) (findS xss ta tv ++ (findS xss tv tb).drop 1) from RowT.of_own (by rw [ints_append, ← ints_drop]; exact hown9)); clear hown9 hgrow9 hob9) | (at_builtin; refine wpList_append_lies _ rfl _ _ 38 rfl w.heap.size 30 i1 _ 1 24 Try.underlying38 hj hy0 hy1 hy2 rfl (by decide) (.slice Av xss.length cv) xss.length vs rfl ((own_below HO.out HB9.out).alloc _) ⟨w9.heap.size, 0, none⟩ 1 1 [.slice A9 ((findS xss ta tv).length + ((findS xss tv tb).length - 1)) c9] rfl rfl (World.news_of_block (cs := #[.slice A9 ((findS xss ta tv).length + ((findS xss tv tb).length - 1)) c9]) (t := 30) (fr := (0, 0)) (heap_alloc_new w9 _)) (by simp [Value.oneCell']) (by omega) (by unfold maxLen; omega) (by omega) (by simp; omega) _ rfl ?_; intro g10 cap10 w10 hown10 hgrow10 hat hlt10; have HB10 := Lib.hid (below_keep HB.out hwz hgrow10 ((HB9.out.alloc hlow9 _)) (fun r hr => (HO.out.lt r hr).1)); have HA10 := Lib.hid (allIn_next HO.out HRW.out (HB9.out.alloc hlow9 _) (HR9.out.below (below_alloc _ _)) hgrow10 hown10); clear hown10 hgrow10 hat hlt10) | (go_at_call 49; refine (find_any _ Av cv vs xss tv tb (HSL.out.below HBE7.out) (HRW.out.below HBE7.out) HFP.out).mono ?_; rintro e w8 ⟨u, rfl, hu, hb8⟩; obtain ⟨A2, c2, rfl, hs2⟩ := Sl.of_own hu; have HB8 := Lib.hid (HBE7.out.trans (hb8.mono HBE7.out.size)); have HU8 := Lib.hid (own_below HU.out (below_join HBE.out hb8)); obtain ⟨ao, hao, hr1⟩ := slice30_lo A2 (findS xss tv tb).length c2 1 (by omega); have HS8 := Lib.hid (hs2.drop1 (by omega) hao); have hlow8 := hb8.size; have hlowe := HBE.out.size; clear hu hb8 hs2 hao))
              go_roundw
              case rel => exact ⟨k + 1, by go_num, by omega, by rw [HTT.out]; exact HA10, HB10⟩
              case measure => simp [intOf]; omega
          · obtain rfl : k = l.length := by omega
            have hA := HA.out
            rw [List.take_length] at hA
            obtain ⟨vs, hown, hrows⟩ := hA
            obtain ⟨Av, cv, rfl, _⟩ := Sl.of_own hown
            have HO := Lib.hid hown
            have HRW := Lib.hid hrows
            clear hown hrows HA
            go_wp2_with fail
            refine bodyPost_ret (v := .tuple #[.slice Av (pathsS es l).length cv, .bool true]) (by simp [results, Try.results48, go_sem]) rfl ?_
            exact ⟨⟨_, rfl, ⟨vs, HO.out, HRW.out⟩⟩, HB.out⟩
end Go.Proofs.Ytcbojlidfabgeaa
