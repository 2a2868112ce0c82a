/- The reference's Normal: a right graph with just the edges that were given. Conditions: numbers in range, at most 4000 pairs. -/
import Derived.Test.YtcbojlidfabgeaaR3s
import Derived.Test.YtcbojlidfabgeaaB2
import Derived.Test.YtcbojlidfabgeaaQ1
import Derived.Deep.OwnRows
import Derived.Deep.DeepCutAuto
import Derived.Deep.RegionLaw
import Derived.Deep.CutBlock
namespace Go.Proofs.Ytcbojlidfabgeaa
open Go.RowKit Go.Deep
set_option linter.unusedVariables false
set_option linter.unusedSimpArgs false
theorem info30 : (Try.prog.info? 30).map (fun i => (i.zero, i.size, i.bytes)) = some (some (.slice none 0 0), 1, 24) := by kernel_rfl
theorem info59 : (Try.prog.info? 59).map (fun i => (i.zero, i.size, i.bytes)) = some (some (.agg #[.int .i64 0, .int .i64 0]), 2, 16) := by kernel_rfl

theorem rows2_made (w : World) (N : Nat) : Rows2 (w.alloc (.cells (madeCells #[.slice none 0 0] N) 30)) (w.heap.size) w.heap.size 3 30 N (List.replicate N (.slice none 0 0)) ((List.replicate N ([] : List Int)).map ints) := by
  refine ⟨Nat.le_refl _, ⟨[], ?_⟩, by simp, by simp, ?_, ?_, by decide⟩
  · rw [heap_alloc_new, ← toList_madeCells_one]; simp
  · intro i v xs hv hx
    rw [List.getElem?_replicate] at hv
    split at hv
    · injection hv with hv
      subst hv
      simp [List.getElem?_replicate] at hx
      obtain ⟨_, rfl⟩ := hx
      exact World.ownsRow_nil _ _ _ _
    · cases hv
  · intro i j v v' hij hv hv'
    rw [List.getElem?_replicate] at hv
    split at hv
    · injection hv with hv; subst hv; exact .inl rfl
    · cases hv

set_option maxHeartbeats 3200000 in
set_option maxRecDepth 100000 in
theorem Normal_any (w : World) (N : Nat) (A : Option Addr) (c : Nat) (l : List (Int × Int)) (h : Sl w A l.length c 2 (edgeCells l)) (hN : N ≤ 1000) (hl : l.length ≤ 4000) (hin : inR N l) :
    Calls Try.prog 43 #[.int .i64 N, .slice A l.length c] w fun e w' => ∃ A' c' es, e = .returned (.tuple #[.agg #[.int .i64 N, .slice A' es.length c'], .int .i64 0]) ∧
      w'.ownsRow w.heap.size 59 2 (.slice A' es.length c') es.length (edgeCells es) ∧ rightB N es = true ∧ (∀ x y, (x, y) ∈ es ↔ x < y ∧ both l x y) ∧ es.length ≤ l.length ∧ Below w.heap.size w w' := by
  have hm := h.nm
  have H := Lib.hid h
  have HIN := Lib.hid hin
  clear h hin
  have hmk := run_make_row' (P := Try.prog) 38 30 (.slice none 0 0) 24 Try.underlying38 info30 rfl .i64 .i64 N (by omega) (by omega)
  obtain ⟨i0, hi, hz0, hz1, hz2⟩ := info_parts info3
  obtain ⟨i1, hj, hy0, hy1, hy2⟩ := info_parts info59
  have n1 : ¬ (N : Int) < 0 := by omega
  have n2 : ¬ (1000 : Int) < (N : Int) := by omega
  go_enter Try.func43, Try.ntmps43
  go_wp2_with fail
  go_loopw [7] (fun i wr => ∃ (k : Nat) (vs : List Value) (U : List (List Int)), i = .int .i64 k ∧ k ≤ l.length ∧ Rows2 wr (w.heap.size + 1) (w.heap.size + 1) 3 30 N vs (U.map ints) ∧ UpInv N k l U ∧
      Below (w.heap.size + 1) (w.alloc (Obj.cells #[Value.int .i64 0, Value.slice none 0 0] 28)) wr) (fun i _ => l.length - (intOf i).toNat)
  case atStart =>
    refine ⟨0, List.replicate N (.slice none 0 0), List.replicate N [], rfl, Nat.zero_le _, ?_, UpInv.start N l, (Below.refl _ _).alloc (by simp) _⟩
    have := rows2_made (w.alloc (Obj.cells #[Value.int .i64 0, Value.slice none 0 0] 28)) N
    rw [World.size_alloc] at this
    exact this
  case round =>
    obtain ⟨k, vs, U, rfl, hk, hr, hu, hb⟩ := hrel
    have HR := Lib.hid hr
    have HU := Lib.hid hu
    have HB := Lib.hid hb
    have HBW := Lib.hid (show Below w.heap.size w wr from (below_alloc _ _).trans (hb.mono (by omega)))
    have hgl := hr.lt
    clear hr hu hb
    by_cases hlt : k < l.length
    · obtain ⟨b, off, hA, hc⟩ := H.out.at' (by omega)
      clear H
      subst hA
      obtain ⟨⟨x, y⟩, he⟩ : ∃ e, l[k]? = some e := ⟨_, List.getElem?_eq_getElem hlt⟩
      have d0 := cell_keep HBW.out (hc _ _ (edgeCells_get he).1)
      have d1 := cell_keep HBW.out (hc _ _ (edgeCells_get he).2)
      simp only [← Nat.add_assoc] at d0 d1
      have hxy := HIN.out _ (List.mem_iff_getElem?.2 ⟨k, he⟩)
      simp only at hxy
      obtain ⟨hx0, hxN, hy0, hyN⟩ := hxy
      have HE := Lib.hid he
      clear hc he
      by_cases hxy : x = y
      · subst hxy
        have HN := Lib.hid (HU.out.same HE.out)
        go_wp2
        go_roundw
        case rel => exact ⟨k + 1, vs, U, by go_num, by omega, HR.out, HN.out, HB.out⟩
        case measure => simp [intOf]; omega
      · have hne : ((x : Int) != y) = true := by simpa using hxy
        obtain ⟨p, rfl⟩ : ∃ p : Nat, x = p := ⟨x.toNat, by omega⟩
        obtain ⟨q, rfl⟩ : ∃ q : Nat, y = q := ⟨y.toNat, by omega⟩
        rcases Nat.lt_or_gt_of_ne (show p ≠ q by omega) with hpq | hpq
        · have hmin : min (p : Int) (q : Int) = (p : Int) := by omega
          have hmax : max (p : Int) (q : Int) = (q : Int) := by omega
          obtain ⟨A', c', u, hv, hu, hown, hsl⟩ := HR.out.int (i := p) (by omega)
          have e0 := HR.out.cell hv
          have hul : u.length ≤ 4000 := by
            have h1 := HU.out.sum
            have h2 := len_le_sum hu
            omega
          have HV := Lib.hid hv
          have HUU := Lib.hid hu
          have HOWN := Lib.hid hown
          have HSL := Lib.hid hsl
          clear hv hu hown hsl
          by_cases hmem : (q : Int) ∈ u
          · have HN := Lib.hid (HU.out.has HE.out hmin.symm HUU.out (by rw [hmax]; exact hmem))
            clear hmin hmax
            go_wp2_with ((go_at_call 30; refine (In_any _ A' c' u (q : Int) HSL.out).mono ?_; rintro e w' ⟨rfl, rfl⟩; rw [decide_eq_true hmem]))
            go_roundw
            case rel => exact ⟨k + 1, vs, U, by go_num, by omega, HR.out, HN.out, HB.out⟩
            case measure => simp [intOf]; omega
          · have HN := Lib.hid (HU.out.add HE.out hxy hmin.symm HUU.out (by rw [hmax]; exact hmem))
            rw [hmax] at HN
            clear hmin hmax
            go_wp2_with (first | (go_at_call 30; refine (In_any _ A' c' u (q : Int) HSL.out).mono ?_; rintro e w' ⟨rfl, rfl⟩; rw [decide_eq_false hmem]) | (at_builtin; refine wpList_append_lies _ rfl _ _ 30 rfl (w.heap.size + 1) 3 i0 (Value.int .i64 0) 1 8 Try.underlying30 hi hz0 hz1 hz2 rfl (by decide) (Value.slice A' u.length c') u.length (ints u) rfl (HOWN.out.alloc _) ⟨wr.heap.size, 0, none⟩ 1 1 [Value.int .i64 (q : Int)] rfl rfl (World.news_of_block (cs := #[Value.int .i64 (q : Int)]) (t := 3) (fr := (0, 0)) (heap_alloc_new wr _)) (by simp [Value.oneCell']) (by omega) (by unfold maxLen; omega) (by omega) (by simp; omega) _ rfl ?_; intro g2 cap2 w1 hown1 hgrow hat hlt2; clear hlt2; obtain ⟨hf1, hf2⟩ := (HR.out.below (below_alloc wr _)).cell_grown HV.out (HR.out.row' HUU.out) hgrow HV.out; have HO1 := Lib.hid hown1; have HGR := Lib.hid hgrow; have HAT := Lib.hid hat; clear hown1 hgrow hat))
            go_roundw
            case rel =>
              have hw := (HR.out.below (below_alloc wr (Obj.cells #[Value.int .i64 (q : Int)] 3))).write HV.out (HR.out.row' HUU.out) HGR.out (v' := Value.slice (some ⟨g2, 0, none⟩) (u.length + 1) cap2) (xs' := ints (u ++ [(q : Int)]))
                (by rw [ints_length, List.length_append, ints_append]; exact HO1.out) (by
                  rcases HAT.out with h1 | h1
                  · exact .inr (.inl h1.symm)
                  · exact .inr (.inr ⟨g2, rfl, by rw [h1]; exact Nat.le_refl _⟩))
              refine ⟨k + 1, vs.set p (Value.slice (some ⟨g2, 0, none⟩) (u.length + 1) cap2), U.set p (u ++ [(q : Int)]), by go_num, by omega, ?_, HN.out, ?_⟩
              · rw [List.map_set]; exact hw
              · refine (Below.grown (HB.out.alloc (by omega) _) HGR.out (by simp; omega) ?_).setCell (by simp) _
                intro r hr
                have := HOWN.out.lt r hr
                omega
            case measure => simp [intOf]; omega
        · have hmin : min (p : Int) (q : Int) = (q : Int) := by omega
          have hmax : max (p : Int) (q : Int) = (p : Int) := by omega
          obtain ⟨A', c', u, hv, hu, hown, hsl⟩ := HR.out.int (i := q) (by omega)
          have e0 := HR.out.cell hv
          have hul : u.length ≤ 4000 := by
            have h1 := HU.out.sum
            have h2 := len_le_sum hu
            omega
          have HV := Lib.hid hv
          have HUU := Lib.hid hu
          have HOWN := Lib.hid hown
          have HSL := Lib.hid hsl
          clear hv hu hown hsl
          by_cases hmem : (p : Int) ∈ u
          · have HN := Lib.hid (HU.out.has HE.out hmin.symm HUU.out (by rw [hmax]; exact hmem))
            clear hmin hmax
            go_wp2_with ((go_at_call 30; refine (In_any _ A' c' u (p : Int) HSL.out).mono ?_; rintro e w' ⟨rfl, rfl⟩; rw [decide_eq_true hmem]))
            go_roundw
            case rel => exact ⟨k + 1, vs, U, by go_num, by omega, HR.out, HN.out, HB.out⟩
            case measure => simp [intOf]; omega
          · have HN := Lib.hid (HU.out.add HE.out hxy hmin.symm HUU.out (by rw [hmax]; exact hmem))
            rw [hmax] at HN
            clear hmin hmax
            go_wp2_with (first | (go_at_call 30; refine (In_any _ A' c' u (p : Int) HSL.out).mono ?_; rintro e w' ⟨rfl, rfl⟩; rw [decide_eq_false hmem]) | (at_builtin; refine wpList_append_lies _ rfl _ _ 30 rfl (w.heap.size + 1) 3 i0 (Value.int .i64 0) 1 8 Try.underlying30 hi hz0 hz1 hz2 rfl (by decide) (Value.slice A' u.length c') u.length (ints u) rfl (HOWN.out.alloc _) ⟨wr.heap.size, 0, none⟩ 1 1 [Value.int .i64 (p : Int)] rfl rfl (World.news_of_block (cs := #[Value.int .i64 (p : Int)]) (t := 3) (fr := (0, 0)) (heap_alloc_new wr _)) (by simp [Value.oneCell']) (by omega) (by unfold maxLen; omega) (by omega) (by simp; omega) _ rfl ?_; intro g2 cap2 w1 hown1 hgrow hat hlt2; clear hlt2; obtain ⟨hf1, hf2⟩ := (HR.out.below (below_alloc wr _)).cell_grown HV.out (HR.out.row' HUU.out) hgrow HV.out; have HO1 := Lib.hid hown1; have HGR := Lib.hid hgrow; have HAT := Lib.hid hat; clear hown1 hgrow hat))
            go_roundw
            case rel =>
              have hw := (HR.out.below (below_alloc wr (Obj.cells #[Value.int .i64 (p : Int)] 3))).write HV.out (HR.out.row' HUU.out) HGR.out (v' := Value.slice (some ⟨g2, 0, none⟩) (u.length + 1) cap2) (xs' := ints (u ++ [(p : Int)]))
                (by rw [ints_length, List.length_append, ints_append]; exact HO1.out) (by
                  rcases HAT.out with h1 | h1
                  · exact .inr (.inl h1.symm)
                  · exact .inr (.inr ⟨g2, rfl, by rw [h1]; exact Nat.le_refl _⟩))
              refine ⟨k + 1, vs.set q (Value.slice (some ⟨g2, 0, none⟩) (u.length + 1) cap2), U.set q (u ++ [(p : Int)]), by go_num, by omega, ?_, HN.out, ?_⟩
              · rw [List.map_set]; exact hw
              · refine (Below.grown (HB.out.alloc (by omega) _) HGR.out (by simp; omega) ?_).setCell (by simp) _
                intro r hr
                have := HOWN.out.lt r hr
                omega
            case measure => simp [intOf]; omega
    · obtain rfl : k = l.length := by omega
      obtain ⟨w2, rfl⟩ : ∃ w2 : World, w2 = wr := ⟨_, rfl⟩
      clear hlt hk
      have hsz2 : w.heap.size < w2.heap.size := by have := HB.out.size; simp at this; omega
      go_wp2_with fail
      go_loopw [12] (fun i wr => ∃ (a : Nat) (es : List (Int × Int)) (v : Value), i = .int .i64 a ∧ a ≤ N ∧ wr.heap[w2.heap.size]? = some (.cells #[Value.int .i64 N, v] 28 (0, 0)) ∧ wr.ownsRow (w2.heap.size + 1) 59 2 v es.length (edgeCells es) ∧
          EsInv a l [] es ∧ es.length = ((U.take a).map List.length).sum ∧ Below w2.heap.size w2 wr) (fun i _ => N - (intOf i).toNat)
      case atStart => exact ⟨0, [], _, rfl, Nat.zero_le _, heap_alloc_new _ _, World.ownsRow_nil _ _ _ _, EsInv.start l, by simp, below_alloc _ _⟩
      case round =>
        obtain ⟨a, es, v, rfl, ha, hg, hown, hes, hlen, hb⟩ := hrel
        have HG := Lib.hid hg
        have HOWN := Lib.hid hown
        have HES := Lib.hid hes
        have HLEN := Lib.hid hlen
        have HB2 := Lib.hid hb
        have hwr : w2.heap.size < wr.heap.size := (Array.getElem?_eq_some_iff.1 hg).1
        clear hg hown hes hlen hb
        by_cases hlt : a < N
        · obtain ⟨A', c', u, hv, hu, hown, hsl⟩ := (HR.out.below HB2.out).int hlt
          have e0 := (HR.out.below HB2.out).cell hv
          have HSL := Lib.hid hsl
          have HUU := Lib.hid hu
          have hul : u.length ≤ 100000 := by
            have h1 := HU.out.sum
            have h2 := len_le_sum hu
            omega
          clear hv hu hown hsl
          go_wp2_with ((go_at_call 44; refine (Sorted_any _ A' c' u HSL.out hul).mono ?_; rintro e w3 ⟨v', ys, rfl, hown, hperm, hpw, hb⟩))
          have HP := Lib.hid hperm
          have HPW := Lib.hid hpw
          have hyl : ys.length = u.length := hperm.length_eq
          have HB3 := Lib.hid hb
          have HV' := Lib.hid hown
          have HG3 := Lib.hid (show w3.heap[w2.heap.size]? = _ from (hb.block _ hwr).trans HG.out)
          have HOWN3 := Lib.hid (own_below HOWN.out hb)
          obtain ⟨Ay, cy, hvy, hsy⟩ := Sl.of_own hown
          subst hvy
          have HB23 := Lib.hid (below_join HB2.out hb)
          clear hperm hpw hb hown hsy HG HOWN
          have hzs : ∀ y ∈ ys, y ∈ u := fun y hy => HP.out.mem_iff.1 hy
          go_loopw [14] (fun i wq => ∃ (j : Nat) (fs : List (Int × Int)) (v : Value), i = .int .i64 j ∧ j ≤ u.length ∧ Hid (wq.heap[w2.heap.size]? = some (.cells #[Value.int .i64 N, v] 28 (0, 0))) ∧ Hid (wq.ownsRow (w2.heap.size + 1) 59 2 v fs.length (edgeCells fs)) ∧
            Hid (wq.ownsRow wr.heap.size 3 1 (Value.slice Ay u.length cy) u.length (ints ys)) ∧ Hid (EsInv a l (ys.take j) fs) ∧ Hid (fs.length = ((U.take a).map List.length).sum + j) ∧ Hid (Below w2.heap.size w2 wq)) (fun i _ => u.length - (intOf i).toNat)
          case atStart => exact ⟨0, es, v, rfl, Nat.zero_le _, HG3.out, HOWN3.out, HV'.out, HES.out, HLEN.out, HB23.out⟩
          case round =>
            obtain ⟨j, fs, v, rfl, hj', HGq, HOq, HVq, HEq, HLq, HBq⟩ := hrel
            have hwq := (Array.getElem?_eq_some_iff.1 HGq.out).1
            by_cases hjl : j < u.length
            · obtain ⟨y, hy⟩ : ∃ y, ys[j]? = some y := ⟨_, List.getElem?_eq_getElem (by omega)⟩
              have hyu := hzs y (List.mem_iff_getElem?.2 ⟨j, hy⟩)
              obtain ⟨by', oy, hAy, hcy⟩ := (Sl.of_own' HVq.out).at' (by omega)
              have f0 := hcy j _ (ints_get hy)
              subst hAy
              clear hcy
              have HYS := Lib.hid hy
              clear hy
              have g1 : wr.cell? ⟨w2.heap.size, 1, none⟩ = some v := by rw [cell_of_row wr _ 1 _ _ _ HGq.out]; rfl
              have gf := frozen_of_row wr w2.heap.size 1 _ _ HGq.out
              have hjm : fs.length + 1 ≤ 100000 := by
                have h1 := HLq.out
                have h2 := sum_take_succ HUU.out
                have h3 := sum_take_le U (a + 1)
                have h4 := HU.out.sum
                omega
              have hvb : v.ownBlock ≠ some w2.heap.size := own_block_ne HOq.out HGq.out (by decide)
              go_wp2_with fail
              go_region_law (first | (refine step_append_lies _ (by rfl) _ _ _ (by rfl) (w2.heap.size + 1) 59 i1 _ 2 16 Try.underlying22 hj hy0 hy1 hy2 rfl (by omega) v fs.length (edgeCells fs) (by rfl) ((HOq.out.alloc _).drew) ⟨wr.heap.size, 0, none⟩ 1 1 [.int .i64 a, .int .i64 y] (by rfl) (by rfl) (World.news_of_block (cs := #[.int .i64 a, .int .i64 y]) (t := 59) (fr := (0, 0)) (heap_alloc_new wr _)) (by simp [Value.oneCell']) (by omega) (by unfold maxLen; omega) (by omega) (by simp; omega) (wr.heap.size + 1) (by simp) ?_; intro gg cap w1 hown1 hgrow hat hlt'; have hk1 := heap_keep hgrow ((below_alloc _ _).drew) HGq.out hvb; have s1 := cell_of_row w1 _ 1 _ _ _ hk1; have s2 := frozen_of_row w1 _ 1 _ _ hk1; have HK1 := Lib.hid hk1; have HO1 := Lib.hid hown1; have HGR := Lib.hid hgrow; have HAT := Lib.hid hat; clear hk1 hown1 hgrow hat hlt'; simp only [List.getElem?_toArray, List.getElem?_cons_succ, List.getElem?_cons_zero] at s1))
              all_goals go_wp2
              all_goals go_roundw
              all_goals first
                | (case measure => simp [intOf]; omega)
                | skip
              all_goals
                have hst := sorted_strict HPW.out (HP.out.nodup_iff.2 (HU.out.nodup _ _ HUU.out))
                have hE := HEq.out.add (take_lt hst HYS.out)
                rw [← take_snoc' HYS.out] at hE
                have hO := own_setCell (i := 1) (u := Value.slice (some ⟨gg, 0, none⟩) (fs.length + 1) cap) HO1.out (own_block_ne HO1.out HK1.out (by decide))
                have hV := own_setCell (i := 1) (u := Value.slice (some ⟨gg, 0, none⟩) (fs.length + 1) cap) (own_keep HGR.out ((below_alloc _ _).drew) HVq.out (own_type_ne HVq.out HOq.out (by decide))) (own_block_ne (own_keep HGR.out ((below_alloc _ _).drew) HVq.out (own_type_ne HVq.out HOq.out (by decide))) HK1.out (by decide))
                have hG := heap_setCell (i := 1) (cs := [Value.int .i64 N, v]) HK1.out (Value.slice (some ⟨gg, 0, none⟩) (fs.length + 1) cap)
                have hB := (below_keep HBq.out (Nat.le_of_lt hwq) HGR.out ((below_alloc _ _).drew) (fun k hk => by have := HOq.out.lt k hk; omega)).setCell (p := ⟨w2.heap.size, 1, none⟩) (Nat.le_refl _) (Value.slice (some ⟨gg, 0, none⟩) (fs.length + 1) cap)
                refine ⟨j + 1, fs ++ [((a : Int), y)], Value.slice (some ⟨gg, 0, none⟩) (fs.length + 1) cap, by go_num, by omega, hG, ?_, hV, hE, ?_, hB⟩
                · rw [edgeCells_append, List.length_append]; exact hO
                · have := HLq.out
                  rw [List.length_append, List.length_singleton]
                  show _ = _ + (j + 1)
                  omega
            · obtain rfl : j = u.length := by omega
              go_wp2
              go_roundw
              case rel =>
                refine ⟨a + 1, fs, v, by go_num, by omega, HGq.out, HOq.out, ?_, ?_, HBq.out⟩
                · have := HEq.out
                  rw [List.take_of_length_le (by omega)] at this
                  exact this.next fun y => by rw [HP.out.mem_iff, HU.out.mem _ _ HUU.out, List.take_length]
                · rw [HLq.out, sum_take_succ HUU.out]
              case measure => simp [intOf]; omega
        · obtain rfl : a = N := by omega
          obtain ⟨A'', c'', hv, hsl⟩ := Sl.of_own HOWN.out
          subst hv
          have HSL := Lib.hid hsl
          clear hsl
          have hle : es.length ≤ l.length := by
            have h1 := HLEN.out
            rw [List.take_of_length_le (by have := HU.out.len; omega)] at h1
            have := HU.out.sum
            omega
          have g0 : wr.cell? ⟨w2.heap.size, 0, none⟩ = some (.int .i64 a) := by rw [cell_of_row wr _ 0 _ _ _ HG.out]; rfl
          have g1 : wr.cell? ⟨w2.heap.size, 1, none⟩ = some (.slice A'' es.length c'') := by rw [cell_of_row wr _ 1 _ _ _ HG.out]; rfl
          have hbk : wr.heap[w.heap.size]? = some (Obj.cells #[Value.int .i64 0, Value.slice none 0 0] 28) := by
            rw [HB2.out.block _ hsz2, HB.out.block _ (by omega), heap_alloc_new]
          have r0 : wr.cell? ⟨w.heap.size, 0, none⟩ = some (.int .i64 0) := by rw [cell_of_row wr _ 0 _ _ _ hbk]; rfl
          have r1 : wr.cell? ⟨w.heap.size, 1, none⟩ = some (.slice none 0 0) := by rw [cell_of_row wr _ 1 _ _ _ hbk]; rfl
          have rf0 := frozen_of_row wr w.heap.size 0 _ _ hbk
          have rf1 := frozen_of_row wr w.heap.size 1 _ _ hbk
          clear hbk
          have HW := Lib.hid (right_of hN HIN.out HES.out (by omega))
          go_wp2
          have hne : (Value.slice A'' es.length c'').ownBlock ≠ some w.heap.size := fun hk => by have := HOWN.out.lt _ hk; omega
          have HO2 := Lib.hid (own_setCell (i := 1) (u := Value.slice A'' es.length c'') (own_setCell (i := 0) (u := Value.int .i64 a) HOWN.out hne) hne)
          exact bodyPost_ret (v := .tuple #[.agg #[.int .i64 a, .slice A'' es.length c''], .int .i64 0]) (by simp [results, Try.results43, go_sem, r0, r1]) rfl
            ⟨A'', c'', es, rfl, own_mono HO2.out (by omega), HW.out.1, HW.out.2, hle, (((below_join HBW.out HB2.out).setCell (by simp) _).setCell (by simp) _)⟩
end Go.Proofs.Ytcbojlidfabgeaa
