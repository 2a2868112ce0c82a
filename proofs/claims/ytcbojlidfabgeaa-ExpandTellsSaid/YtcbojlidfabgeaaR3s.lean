/- The reference's Sorted: a fresh row, sorted, with the same numbers. Conditions: at most 100000 numbers. -/
import Derived.Test.YtcbojlidfabgeaaR3
import Derived.Deep.DeepCutAuto
import Derived.Deep.CutBlock
namespace Go.Proofs.Ytcbojlidfabgeaa
open Go.RowKit
set_option linter.unusedVariables false
set_option linter.unusedSimpArgs false
theorem info3 : (Try.prog.info? 3).map (fun i => (i.zero, i.size, i.bytes)) = some (some (Value.int .i64 0), 1, 8) := by kernel_rfl

theorem ins_perm {ys zs : List Int} {x : Int} {p : Nat} (h : ys.Perm zs) : (ys.take p ++ x :: ys.drop p).Perm (zs ++ [x]) := by
  refine List.perm_middle.trans ?_
  rw [List.take_append_drop]
  exact (h.cons x).trans (List.perm_append_singleton x zs).symm
theorem ins_sorted {ys : List Int} {x : Int} {p : Nat} (h : ys.Pairwise (· ≤ ·)) (h1 : ∀ j y, j < p → ys[j]? = some y → y ≤ x) (h2 : ∀ j y, p ≤ j → ys[j]? = some y → x < y) : (ys.take p ++ x :: ys.drop p).Pairwise (· ≤ ·) := by
  have a1 : ∀ y ∈ ys.take p, y ≤ x := by
    intro y hy
    obtain ⟨j, hj⟩ := List.mem_iff_getElem?.1 hy
    rw [List.getElem?_take] at hj
    split at hj
    · exact h1 j y ‹_› hj
    · cases hj
  have a2 : ∀ y ∈ ys.drop p, x < y := by
    intro y hy
    obtain ⟨j, hj⟩ := List.mem_iff_getElem?.1 hy
    rw [List.getElem?_drop] at hj
    exact h2 _ y (by omega) hj
  rw [List.pairwise_append]
  refine ⟨h.sublist (List.take_sublist _ _), List.pairwise_cons.2 ⟨fun y hy => Int.le_of_lt (a2 y hy), h.sublist (List.drop_sublist _ _)⟩, ?_⟩
  intro y hy z hz
  rcases List.mem_cons.1 hz with rfl | hz
  · exact a1 y hy
  · have := a1 y hy; have := a2 z hz; omega
/-- The cells behind the copy, up to the row's length. -/
theorem cur_after {cur : List Value} {ys : List Int} {k p : Nat} {cap : Nat} (hl : ys.length = k) (hcl : cur.length = cap * 1) (hk : k + 1 ≤ cap) (ht : cur.take ((k + 1) * 1) = ints ys ++ [Value.int .i64 0]) (hp : p ≤ k) :
    (splice cur (p + 1) (ints (ys.drop p))).take ((k + 1) * 1) = (ints ys ++ [Value.int .i64 0]).take (p + 1) ++ ints (ys.drop p) := by
  have h1 : cur.take (p + 1) = (ints ys ++ [Value.int .i64 0]).take (p + 1) := by
    rw [← ht, List.take_take]; congr 1; omega
  unfold splice
  rw [← List.append_assoc, h1, List.take_append_of_le_length, List.take_of_length_le]
  · simp [hl]; omega
  · simp [hl]; omega
theorem set_after {ys : List Int} {x : Int} {k p : Nat} (hl : ys.length = k) (hp : p ≤ k) : ((ints ys ++ [Value.int .i64 0]).take (p + 1) ++ ints (ys.drop p)).set p (Value.int .i64 x) = ints (ys.take p ++ x :: ys.drop p) := by
  have h1 : ((ints ys ++ [Value.int .i64 0]).take (p + 1)) = ints (ys.take p) ++ [(ints ys ++ [Value.int .i64 0])[p]'(by simp [hl]; omega)] := by
    rw [List.take_succ_eq_append_getElem (by simp [hl]; omega)]
    congr 1
    rw [List.take_append_of_le_length (by simp [hl]; omega)]
    simp [ints]
  rw [h1, List.append_assoc, List.set_append_right _ _ (by simp; omega)]
  have : p - (ints (ys.take p)).length = 0 := by simp; omega
  rw [this]
  simp [ints]

set_option maxHeartbeats 3200000 in
set_option maxRecDepth 100000 in
theorem Sorted_any (w : World) (A : Option Addr) (c : Nat) (xs : List Int) (h : Sl w A xs.length c 1 (ints xs)) (hx : xs.length ≤ 100000) :
    Calls Try.prog 44 #[.slice A xs.length c] w fun e w' => ∃ v ys, e = .returned v ∧ w'.ownsRow w.heap.size 3 1 v xs.length (ints ys) ∧ ys.Perm xs ∧ ys.Pairwise (· ≤ ·) ∧ Below w.heap.size w w' := by
  have hm := h.nm
  have H := Lib.hid h
  clear h
  obtain ⟨i0, hi, hz0, hz1, hz2⟩ := info_parts info3
  go_enter Try.func44, Try.ntmps44
  go_wp2
  go_loopw [3, 4] (fun v i wr => ∃ (k : Nat) (ys : List Int) (g cap : Nat), i = Value.int .i64 k ∧ v = .slice (some ⟨g, 0, none⟩) k cap ∧ k ≤ xs.length ∧ wr.ownsRow w.heap.size 3 1 (.slice (some ⟨g, 0, none⟩) k cap) k (ints ys) ∧ ys.Perm (xs.take k) ∧ ys.Pairwise (· ≤ ·) ∧ Below w.heap.size w wr) (fun _ i _ => xs.length - (intOf i).toNat)
  case atStart => exact ⟨0, [], _, _, rfl, rfl, Nat.zero_le _, own_mk (cur := []) (heap_alloc_new w _) (Nat.le_refl _) (by omega) (by unfold maxLen; omega) rfl rfl, by simp, by simp, below_alloc _ _⟩
  case round =>
    obtain ⟨k, ys, g, cap, rfl, rfl, hk, hown, hperm, hpw, hb⟩ := hrel
    have HP := Lib.hid hperm
    have HPW := Lib.hid hpw
    have HOWN := Lib.hid hown
    have HB := Lib.hid hb
    have hyl : ys.length = k := by have := hown.1; simpa using this
    have HYL := Lib.hid hyl
    obtain ⟨_, cur0, hh0, hgb, hkc, hcm, hcl0, hct0⟩ := own_open hown
    have hsz := hb.size
    have hgsz : g < wr.heap.size := (Array.getElem?_eq_some_iff.1 hh0).1
    unfold maxLen at hcm
    clear hperm hpw hown hb hyl hh0 hcl0 hct0 cur0
    by_cases hlt : k < xs.length
    · obtain ⟨b, off, hA, hc⟩ := H.out.at' (by omega)
      clear H
      subst hA
      have he : xs[k]? = some xs[k] := by simp [hlt]
      have HPN := Lib.hid (show xs.take (k + 1) = xs.take k ++ [xs[k]] from List.take_succ_eq_append_getElem hlt)
      generalize xs[k] = x at he HPN
      have HD0 := Lib.hid (hc _ _ (ints_get he))
      have d0 := cell_keep HB.out HD0.out
      have hbw : b < w.heap.size := World.block_lt_of_cell? w _ (hc _ _ (ints_get he))
      have HE := Lib.hid he
      clear hc he
      obtain ⟨wo, rfl⟩ : ∃ wo : World, wo = wr := ⟨_, rfl⟩
      go_upto_block 2 with (fail)
      go_cut [5] (fun v wx => ∃ p : Nat, v = .int .i64 p ∧ p ≤ k ∧ Hid (∀ j y, p ≤ j → ys[j]? = some y → x < y) ∧ Hid (∀ j y, j < p → ys[j]? = some y → y ≤ x) ∧ Hid (Below wo.heap.size wo wx))
      case first =>
        go_wp2_with fail
        go_loopw [5] (fun v wi => ∃ p : Nat, v = .int .i64 p ∧ p ≤ k ∧ Hid (∀ j y, p ≤ j → ys[j]? = some y → x < y) ∧ Hid (Below wo.heap.size wo wi)) (fun v _ => (intOf v).toNat)
        case atStart => exact ⟨k, rfl, by omega, (fun j y hj hy => by have := (List.getElem?_eq_some_iff.1 hy).1; have := HYL.out; omega), Below.refl _ _⟩
        case round =>
          obtain ⟨p, rfl, hp, HGT, HBI⟩ := hrel
          have e0 := cell_keep HBI.out d0
          clear d0
          by_cases hcont : ∃ q y, p = q + 1 ∧ ys[q]? = some y ∧ x < y
          · obtain ⟨q, y, rfl, hy, hxy⟩ := hcont
            have HG2 := Lib.hid (show ∀ j z, q ≤ j → ys[j]? = some z → x < z from fun j z hj hz => by
              rcases Nat.eq_or_lt_of_le hj with rfl | hj
              · rw [hy] at hz; injection hz with hz; omega
              · exact HGT.out j z hj hz)
            have c1 : wr.cell? ⟨g, q, none⟩ = some (Value.int .i64 y) := cell_keep HBI.out ((HOWN.out.cellAt q (by omega)).trans (ints_get hy))
            clear hy
            have hq0 : ((q : Int) + 1 > 0) := by omega
            go_wp2_with fail
            go_quiet (fail)
            go_wp2
            go_roundw
            case rel => exact ⟨q, by go_num, by omega, HG2.out, below_dn HBI.out _⟩
            case measure => simp [intOf]
          · have HLE := Lib.hid (show ∀ j y, j < p → ys[j]? = some y → y ≤ x from fun j y hj hy => by
              by_cases hle : y ≤ x
              · exact hle
              · exfalso
                have hpl : p - 1 < ys.length := by have := HYL.out; omega
                refine hcont ⟨p - 1, ys[p-1], by omega, by simp [hpl], ?_⟩
                rcases Nat.lt_or_ge j (p - 1) with h | h
                · have := (List.pairwise_iff_getElem.1 HPW.out) j (p - 1) (by omega) hpl h
                  have h2 : ys[j]'(by omega) = y := (List.getElem?_eq_some_iff.1 hy).2
                  omega
                · obtain rfl : j = p - 1 := by omega
                  have h2 : ys[p-1] = y := (List.getElem?_eq_some_iff.1 hy).2
                  omega)
            clear hcont
            rcases Nat.eq_zero_or_pos p with hp0 | hp0
            · subst hp0
              go_wp2_with fail
              go_quiet (fail)
              go_wp2
              go_meet
              case rel => exact ⟨0, rfl, by omega, HGT, HLE, below_dn HBI.out _⟩
            · obtain ⟨q, rfl⟩ : ∃ q, p = q + 1 := ⟨p - 1, by omega⟩
              obtain ⟨y, hy⟩ : ∃ y, ys[q]? = some y := ⟨_, List.getElem?_eq_getElem (by have := HYL.out; omega)⟩
              have hle := HLE.out q _ (by omega) hy
              have c1 : wr.cell? ⟨g, q, none⟩ = some (Value.int .i64 y) := cell_keep HBI.out ((HOWN.out.cellAt q (by omega)).trans (ints_get hy))
              clear hy
              have hq0 : ((q : Int) + 1 > 0) := by omega
              have hd : decide (x < y) = false := by simpa using hle
              go_wp2_with fail
              go_quiet (fail)
              go_wp2
              go_meet
              case rel => exact ⟨q + 1, by go_num, by omega, HGT, HLE, below_dn HBI.out _⟩
      case rest =>
        obtain ⟨p, rfl, hp, HGT, HLE, HBI⟩ := hcut
        have e0 := cell_keep HBI.out d0
        have HOWNI := Lib.hid (own_below HOWN.out HBI.out)
        have HBI2 := Lib.hid (below_join (show Below w.heap.size w wo from HB.out) HBI.out)
        have hgr : g < wc.heap.size := by have := HBI.out.size; omega
        have hwr : w.heap.size ≤ wc.heap.size := HBI2.out.size
        clear HBI d0 HB HOWN
        have hyl := HYL.out
        go_wp2_with ((at_builtin; refine wpList_append_lies _ rfl _ _ 30 rfl w.heap.size 3 i0 (Value.int .i64 0) 1 8 Try.underlying30 hi hz0 hz1 hz2 rfl (by decide) (Value.slice (some ⟨g, 0, none⟩) k cap) k (ints ys) rfl (HOWNI.out.alloc _) ⟨wc.heap.size, 0, none⟩ 1 1 [Value.int .i64 0] rfl rfl (World.news_of_block (cs := #[Value.int .i64 0]) (t := 3) (fr := (0, 0)) (heap_alloc_new wc _)) (by simp [Value.oneCell']) (by omega) (by unfold maxLen; omega) (by omega) (by simp; omega) _ rfl ?_; intro g2 cap2 w1 hown1 hgrow hat hlt2))
        obtain ⟨_, cur, hh, hg2, hk2, hc2, hcl, hct⟩ := own_open hown1
        have HO1 := Lib.hid hown1
        have HH := Lib.hid hh
        have HCL := Lib.hid hcl
        have HCT := Lib.hid hct
        have HGR := Lib.hid hgrow
        have hb0 : Below w.heap.size w (wc.alloc (Obj.cells #[Value.int .i64 0] 3)) := below_join HBI2.out (below_alloc wc _)
        have HB1 := Lib.hid (hb0.grown hgrow (by simp; omega) (by intro r hr; simp [Value.ownBlock] at hr; omega))
        clear hb0
        clear hown1 hgrow hh hcl hct hat e0 hyl
        unfold maxLen at hc2
        have HM := Lib.hid hc2
        have hc2' : cap2 ≤ 9223372036854775807 := by omega
        clear hc2
        obtain ⟨ao, hao, hr1⟩ := slice30_lo (some ⟨g2, 0, none⟩) (k + 1) cap2 (p + 1) (by omega)
        obtain ⟨bo, hbo, hr2⟩ := slice30_lo (some ⟨g2, 0, none⟩) (k + 1) cap2 p (by omega)
        have hr1 := fun W => hr1 W ((p : Int) + 1) (by omega)
        have hr2 := fun W => hr2 W p rfl
        have hwp : IntKind.i64.wrap ((p : Int) + 1) = (p : Int) + 1 := IntWalk.i64_in _ (by omega)
        have HAO := Lib.hid hao
        have HBO := Lib.hid hbo
        clear hao hbo
        have hyl := HYL.out
        have k1 : (ints (ys.drop p)).length = Nat.min (k + 1 - p) (k - p) := by
          simp only [ints_length, List.length_drop, hyl, Nat.min_def]; split <;> omega
        have k2 : 0 < (ints (ys.drop p)).length → ao = some ⟨g2, p + 1, none⟩ ∧ ∃ ad, bo = some ad ∧ ∀ j v, (ints (ys.drop p))[j]? = some v → w1.drew.cell? (ad.add j) = some v := by
          intro h0
          simp only [ints_length, List.length_drop, hyl] at h0
          refine ⟨?_, ⟨g2, p, none⟩, ?_, ?_⟩
          · have := HAO.out g2 0 rfl (by omega); simpa using this
          · have := HBO.out g2 0 rfl (by omega); simpa using this
          · intro j v hv
            have h1 := HO1.out.cellAt (p + j) (by have := (List.getElem?_eq_some_iff.1 hv).1; simp [hyl] at this; omega)
            rw [List.getElem?_append_left (by have := (List.getElem?_eq_some_iff.1 hv).1; simp [hyl] at this ⊢; omega)] at h1
            have h2 : (ints ys)[p + j]? = some v := by
              rw [← hv]; simp [ints, List.getElem?_drop]
            rw [h2] at h1
            rw [addr_add]
            exact h1
        have k3 : p + 1 + (ints (ys.drop p)).length ≤ cur.length := by
          have := HCL.out; simp only [ints_length, List.length_drop, hyl]; omega
        have k4 : ∀ v ∈ ints (ys.drop p), v.oneCell' = true := ints_oneCell _ _
        have K1 := Lib.hid k1
        have K2 := Lib.hid k2
        have K3 := Lib.hid k3
        have K4 := Lib.hid k4
        clear k1 k2 k3 k4 hyl
        go_region_held3 (fun _ => True) (trivial) ((refine step_copy_splice rfl _ _ 30 30 rfl 3 Try.underlying30 (by kernel_rfl) ao bo (k - p) (cap2 - (p + 1)) (k + 1 - p) (cap2 - p) rfl rfl g2 (p + 1) cur 3 HH.out (ints (ys.drop p)) K1.out K2.out K3.out K4.out w.heap.size w HB1.out.drew hg2 ?_; intro w3 hw3 hb3))
        have HC3 := Lib.hid (show w3.ownsRow w.heap.size 3 1 (Value.slice (some ⟨g2, 0, none⟩) (k + 1) cap2) (k + 1) ((ints ys ++ [Value.int .i64 0]).take (p + 1) ++ ints (ys.drop p)) from
          own_mk hw3.out hg2 hk2 HM.out (by rw [length_splice _ _ _ K3.out]; exact HCL.out) (cur_after HYL.out HCL.out hk2 HCT.out hp))
        have q0 : w3.cell? ⟨b, off + k, none⟩ = some (Value.int .i64 x) := cell_keep hb3 HD0.out
        obtain ⟨vp, hvp⟩ : ∃ vp, w3.cell? ⟨g2, p, none⟩ = some vp := by
          rw [HC3.out.cellAt p (by omega)]
          exact ⟨_, List.getElem?_eq_getElem (by have := HC3.out.1; omega)⟩
        have hfp := HC3.out.frozenAt p
        have hp1 : p < k + 1 := by omega
        have HB3 := Lib.hid hb3
        clear hb3 hw3
        go_wp2
        go_roundw
        case rel =>
          refine ⟨k + 1, ys.take p ++ x :: ys.drop p, g2, cap2, by go_num, rfl, by omega, ?_, ?_, ins_sorted HPW.out HLE.out HGT.out, ?_⟩
          · have := HC3.out.stored p (Value.int .i64 x)
            rw [set_after HYL.out hp] at this
            exact this.1
          · rw [HPN.out]; exact ins_perm HP.out
          · exact HB3.out.setCell hg2 _
        case measure => simp [intOf]; omega
    · go_wp2
      go_ret
      obtain rfl : k = xs.length := by omega
      refine ⟨_, rfl, ys, HOWN.out, ?_, HPW.out, HB.out⟩
      have := HP.out
      rwa [List.take_length] at this
end Go.Proofs.Ytcbojlidfabgeaa
