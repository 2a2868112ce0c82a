/- The reference's layer 10: Replay. Conditions: a right graph of at most 1000 vertices; at most 1000 steps. -/
import Derived.Test.YtcbojlidfabgeaaAp
namespace Go.Proofs.Ytcbojlidfabgeaa
open Go.RowKit
set_option linter.unusedVariables false
set_option linter.unusedSimpArgs false

theorem info94 : (Try.prog.info? 94).map (fun i => (i.zero, i.size, i.bytes)) = some (some (.agg #[.int .i64 0, .int .i64 0, .int .i64 0, .bool false]), 4, 32) := by kernel_rfl
theorem belowN {B : Nat} {a w : World} (h : Below B a w) (n : Nat) : Below B a (w.drewN n) := ⟨h.os, h.tape, h.output, h.size, h.block⟩
theorem stepCells_one (l : List Stp) : ∀ u ∈ stepCells l, u.oneCell' = true := by
  intro u hu
  obtain ⟨s, _, h⟩ := List.mem_flatMap.1 hu
  simp at h
  rcases h with rfl | rfl | rfl | rfl <;> rfl
theorem Sl.take {w : World} {A : Option Addr} {n c sz : Nat} {vs : List Value} (h : Sl w A n c sz vs) {k : Nat} (hk : k ≤ n) : Sl w A k c sz (vs.take (k * sz)) := by
  refine ⟨?_, Nat.le_trans hk h.cap, h.capm, ?_⟩
  · rw [List.length_take, h.len]; exact Nat.min_eq_left (Nat.mul_le_mul_right _ hk)
  · rcases h.cells with h0 | ⟨b, off, hA, hc⟩
    · exact .inl (by omega)
    · refine .inr ⟨b, off, hA, fun j v hv => hc j v ?_⟩
      rw [List.getElem?_take] at hv
      split at hv
      · exact hv
      · cases hv
theorem stepCells_take (l : List Stp) (k : Nat) : (stepCells l).take (k * 4) = stepCells (l.take k) := by
  induction l generalizing k with
  | nil => simp [stepCells]
  | cons a l ih =>
    cases k with
    | zero => simp [stepCells]
    | succ k =>
      have := ih k
      rw [show (k + 1) * 4 = k * 4 + 1 + 1 + 1 + 1 by omega]
      simpa [stepCells] using this

set_option maxHeartbeats 3200000 in
set_option maxRecDepth 100000 in
theorem Replay10_any (w : World) (N : Nat) (A : Option Addr) (c : Nat) (es : List (Int × Int)) (As : Option Addr) (cs : Nat) (l : List Stp) (h : Sl w A es.length c 2 (edgeCells es)) (hs : Sl w As l.length cs 4 (stepCells l)) (hl : l.length ≤ 1000) (hN : N ≤ 1000) (hright : rightB N es = true) :
    Calls Try.prog 88 #[.agg #[.int .i64 N, .slice A es.length c], .slice As l.length cs] w fun e w' => (∃ (A1 A2 A3 : Option Addr) (n1 n2 n3 c1 c2 c3 : Nat), e = .returned (.tuple #[.agg #[.slice A1 n1 c1, .slice A2 n2 c2, .slice A3 n3 c3], .bool (replayS N (beginS N es) l).2])) ∧ Below w.heap.size w w' := by
  have hm := h.nm
  have hsm := hs.nm
  have hsc := hs.cap
  have hscm := hs.capm
  have H := Lib.hid h
  have HSS := Lib.hid hs
  have HRT := Lib.hid hright
  clear h hs hright
  obtain ⟨i0, hi, hz0, hz1, hz2⟩ := info_parts info94
  go_enter Try.func88, Try.ntmps88
  go_wp2_with (first | (go_at_call 81; refine (Right_any _ N A c es (H.out.below (below_join (below_alloc _ _) (below_alloc _ _)))).mono ?_; rintro e w4 ⟨rfl, hb4⟩; rw [HRT.out]; have d0 : w4.cell? ⟨w.heap.size, 0, none⟩ = some (.int .i64 N) := cell_keep hb4 (by simp); have d1 : w4.cell? ⟨w.heap.size, 1, none⟩ = some (.slice A es.length c) := cell_keep hb4 (by simp); have HB4 := Lib.hid hb4; clear hb4) | (go_at_call 108; refine (Begin10_any _ N A c es (H.out.below (below_join (below_join (below_alloc _ _) (below_alloc _ _)) HB4.out)) hN HRT.out).mono ?_; rintro e w5 ⟨bp, gi, ci, ga, ca, Aa, vs, rfl, hr5, hb5⟩; have HR5 := Lib.hid hr5; have HB5 := Lib.hid hb5; clear hr5 hb5))
  have hsz4 := HB4.out.size
  simp only [World.size_alloc] at hsz4
  have HRB5 := Lib.hid (show w5.heap[w.heap.size + 1]? = some (.cells #[.slice none 0 0, .slice none 0 0, .slice none 0 0] 137 (0, 0)) by
    rw [HB5.out.block _ (by omega), HB4.out.block _ (by simp), show w.heap.size + 1 = (w.alloc (Obj.cells #[Value.int .i64 N, .slice A es.length c] 28)).heap.size by simp]
    exact heap_alloc_new _ _)
  have HLOW5 := Lib.hid (show Below w.heap.size w w5 from below_join (below_join (below_join (below_alloc _ _) (below_alloc _ _)) HB4.out) HB5.out)
  obtain ⟨B, hB⟩ : ∃ B, w4.heap.size = B := ⟨_, rfl⟩
  rw [hB] at HR5 HB5 hsz4
  have hB5 : B ≤ w5.heap.size := hB ▸ HB5.out.size
  clear HB4 HB5 d0 d1 hB H HRT
  go_loopw [7] (fun i wr => ∃ (k : Nat) (s : St), i = .int .i64 k ∧ k ≤ l.length ∧ Hid (Rest10 wr B bp N s gi ci ga ca Aa vs) ∧ Hid ((replayS N (beginS N es) l).2 = (replayS N s (l.drop k)).2) ∧ Hid (Below B w5 wr)) (fun i _ => l.length - (intOf i).toNat)
  case atStart => exact ⟨0, beginS N es, rfl, Nat.zero_le _, HR5.out, rfl, Below.refl _ _⟩
  case round =>
    clear HR5
    obtain ⟨k, s, rfl, hk, HR, HQ, HB⟩ := hrel
    have HLOW := Lib.hid (show Below w.heap.size w wr from HLOW5.out.trans (HB.out.mono (by omega)))
    have HRB := Lib.hid ((HB.out.block _ (by omega)).trans HRB5.out)
    have hwz := HB.out.size
    by_cases hlt : k < l.length
    · obtain ⟨b, off, hA, hc⟩ := HSS.out.at' (by omega)
      subst hA
      obtain ⟨t, ht⟩ : ∃ t, l[k]? = some t := ⟨_, List.getElem?_eq_getElem hlt⟩
      obtain ⟨g0, g1, g2, g3⟩ := stepCells_get ht
      have d0 := cell_keep HLOW.out (hc _ _ g0)
      have d1 := cell_keep HLOW.out (hc _ _ g1)
      have d2 := cell_keep HLOW.out (hc _ _ g2)
      have d3 := cell_keep HLOW.out (hc _ _ g3)
      simp only [← Nat.add_assoc] at d0 d1 d2 d3
      have HD := Lib.hid (show l.drop k = t :: l.drop (k + 1) from by
        obtain ⟨h1, h2⟩ := List.getElem?_eq_some_iff.1 ht
        rw [List.drop_eq_getElem_cons h1, h2])
      clear hc ht g0 g1 g2 g3
      obtain ⟨tv, ta, tb, td⟩ := t
      simp only at d0 d1 d2 d3
      go_upto_if 31 with ((go_at_call 109; refine (May10_any _ B bp N s gi ci ga ca Aa vs tv HR.out hN).mono ?_; rintro e w6 ⟨rfl, hb6⟩; have HB6 := Lib.hid hb6; clear hb6))
      have hwz6 := HB6.out.size
      go_cut [8, 9, 10, 11] from 18 to 107 (fun v p q r wx => v = .bool (mayS N s tv && eqStp (stepS N s tv.toNat) ⟨tv, ta, tb, td⟩) ∧ Hid (Rest10 wx B bp N s gi ci ga ca Aa vs) ∧ Hid (Below wr.heap.size wr wx))
      case first =>
        cases hmay : mayS N s tv
        · go_wp2_with fail
          go_meet
          exact ⟨by simp [hmay], HR.out.below HB6.out, HB6.out⟩
        · obtain ⟨x, rfl, hx, hle⟩ : ∃ x : Nat, tv = x ∧ x < N ∧ (nearS N s x).length ≤ 2 := by
            simp [mayS] at hmay
            obtain ⟨⟨⟨h1, h2⟩, h3⟩, h4⟩ := hmay
            refine ⟨tv.toNat, by omega, by omega, h4⟩
          have hmay' := hmay
          have e0 := cell_keep HB6.out d0
          obtain ⟨L, hL⟩ : ∃ L, nearS N s x = L := ⟨_, rfl⟩
          rw [hL] at hle
          have HMAY := Lib.hid hmay
          have HL := Lib.hid hL
          have hnm := fun (y : Nat) => near_mem (N := N) (s := s) (v := x) (x := y)
          have hns := near_sorted N s x
          rw [hL] at hns
          simp only [hL] at hnm
          clear hmay hmay' hL
          match L, hle with
          | [], _ =>
            have HST := Lib.hid (show stepS N s x = ⟨x, -1, -1, false⟩ by unfold stepS; rw [HL.out])
            have HOK := Lib.hid (show (mayS N s (x : Int) && eqStp (stepS N s (x : Int).toNat) ⟨x, ta, tb, td⟩) = eqStp ⟨x, -1, -1, false⟩ ⟨x, ta, tb, td⟩ by rw [HMAY.out, Int.toNat_natCast, HST.out]; simp)
            go_wp2_with ((go_at_call 110; refine (Near10_any _ B bp N s gi ci ga ca Aa vs x (HR.out.below HB6.out) hx hN).mono ?_; rintro e w7 ⟨u, rfl, hown7, hb7⟩; rw [HL.out] at hown7; obtain ⟨Al, cl, rfl, hsl7⟩ := Sl.of_own hown7;  have hcl := hsl7.cap; have hcl2 := hsl7.capm; have HB7 := Lib.hid (HB6.out.trans (hb7.mono HB6.out.size)); have f1 := cell_keep HB7.out d1; have f2 := cell_keep HB7.out d2; have f3 := cell_keep HB7.out d3; clear hown7 hb7 hsl7))
            by_cases h1 : ta = -1
            · subst h1
              by_cases h2 : tb = -1
              · subst h2
                cases td
                · go_quiet (fail)
                  go_wp2_with fail
                  go_meet
                  exact ⟨by rw [HOK.out]; simp [eqStp], HR.out.below (belowN HB7.out _), belowN HB7.out _⟩
                · go_quiet (fail)
                  go_wp2_with fail
                  go_meet
                  exact ⟨by rw [HOK.out]; simp [eqStp], HR.out.below (belowN HB7.out _), belowN HB7.out _⟩
              · have k2 : (tb == (-1 : Int)) = false := by simp [h2]
                have k2' : decide (tb = (-1 : Int)) = false := by simp [h2]
                go_quiet (fail)
                go_wp2_with fail
                go_meet
                exact ⟨by rw [HOK.out]; simp [eqStp, h2, eq_comm], HR.out.below (belowN HB7.out _), belowN HB7.out _⟩
            · have k1 : (ta == (-1 : Int)) = false := by simp [h1]
              have k1' : decide (ta = (-1 : Int)) = false := by simp [h1]
              go_quiet (fail)
              go_wp2_with fail
              go_meet
              exact ⟨by rw [HOK.out]; simp [eqStp, h1, eq_comm], HR.out.below (belowN HB7.out _), belowN HB7.out _⟩
          | [a], _ =>
            have HST := Lib.hid (show stepS N s x = ⟨x, a, -1, false⟩ by unfold stepS; rw [HL.out])
            have HOK := Lib.hid (show (mayS N s (x : Int) && eqStp (stepS N s (x : Int).toNat) ⟨x, ta, tb, td⟩) = eqStp ⟨x, a, -1, false⟩ ⟨x, ta, tb, td⟩ by rw [HMAY.out, Int.toNat_natCast, HST.out]; simp)
            go_wp2_with ((go_at_call 110; refine (Near10_any _ B bp N s gi ci ga ca Aa vs x (HR.out.below HB6.out) hx hN).mono ?_; rintro e w7 ⟨u, rfl, hown7, hb7⟩; rw [HL.out] at hown7; obtain ⟨Al, cl, rfl, hsl7⟩ := Sl.of_own hown7; obtain ⟨b7, o7, rfl, hc7⟩ := hsl7.at' (by simp); have c0 := hc7 0 _ rfl; simp only [Nat.add_zero] at c0; clear hc7; have hcl := hsl7.cap; have hcl2 := hsl7.capm; have HB7 := Lib.hid (HB6.out.trans (hb7.mono HB6.out.size)); have f1 := cell_keep HB7.out d1; have f2 := cell_keep HB7.out d2; have f3 := cell_keep HB7.out d3; clear hown7 hb7 hsl7))
            by_cases h1 : ta = a
            · subst h1
              by_cases h2 : tb = -1
              · subst h2
                cases td
                · go_quiet (fail)
                  go_wp2_with fail
                  go_meet
                  exact ⟨by rw [HOK.out]; simp [eqStp], HR.out.below (belowN HB7.out _), belowN HB7.out _⟩
                · go_quiet (fail)
                  go_wp2_with fail
                  go_meet
                  exact ⟨by rw [HOK.out]; simp [eqStp], HR.out.below (belowN HB7.out _), belowN HB7.out _⟩
              · have k2 : (tb == (-1 : Int)) = false := by simp [h2]
                have k2' : decide (tb = (-1 : Int)) = false := by simp [h2]
                go_quiet (fail)
                go_wp2_with fail
                go_meet
                exact ⟨by rw [HOK.out]; simp [eqStp, h2, eq_comm], HR.out.below (belowN HB7.out _), belowN HB7.out _⟩
            · have k1 : (ta == (a : Int)) = false := by simp [h1]
              have k1' : decide (ta = (a : Int)) = false := by simp [h1]
              go_quiet (fail)
              go_wp2_with fail
              go_meet
              exact ⟨by rw [HOK.out]; simp [eqStp, h1, eq_comm], HR.out.below (belowN HB7.out _), belowN HB7.out _⟩
          | [a, b2], _ =>
            have HST := Lib.hid (show stepS N s x = ⟨x, a, b2, !s.adj a b2⟩ by unfold stepS; rw [HL.out])
            have HOK := Lib.hid (show (mayS N s (x : Int) && eqStp (stepS N s (x : Int).toNat) ⟨x, ta, tb, td⟩) = eqStp ⟨x, a, b2, !s.adj a b2⟩ ⟨x, ta, tb, td⟩ by rw [HMAY.out, Int.toNat_natCast, HST.out]; simp)
            go_wp2_with ((go_at_call 110; refine (Near10_any _ B bp N s gi ci ga ca Aa vs x (HR.out.below HB6.out) hx hN).mono ?_; rintro e w7 ⟨u, rfl, hown7, hb7⟩; rw [HL.out] at hown7; obtain ⟨Al, cl, rfl, hsl7⟩ := Sl.of_own hown7; obtain ⟨b7, o7, rfl, hc7⟩ := hsl7.at' (by simp); have c0 := hc7 0 _ rfl; simp only [Nat.add_zero] at c0; have c1 := hc7 1 _ rfl; clear hc7; have hcl := hsl7.cap; have hcl2 := hsl7.capm; have HB7 := Lib.hid (HB6.out.trans (hb7.mono HB6.out.size)); have f1 := cell_keep HB7.out d1; have f2 := cell_keep HB7.out d2; have f3 := cell_keep HB7.out d3; clear hown7 hb7 hsl7))
            have HR7 := Lib.hid (HR.out.below HB7.out)
            have ha2 := (hnm a (by simp)).1
            have hb2 := (hnm b2 (by simp)).1
            have hA7 := HR7.out.hA (by omega)
            subst hA7
            obtain ⟨q0, q1, _, _⟩ := cells2 HR7.out.hp
            obtain ⟨gr, cr, r1, hcr, hcr2, hrow⟩ := HR7.out.adj_cell ha2
            have r2 := hrow b2 hb2
            have hca1 := HR7.out.capa.1
            have hca2 := HR7.out.capa.2
            have m1 : max (a : Int) 0 = a := by omega
            have m2 : max (b2 : Int) 0 = b2 := by omega
            have n1 : (0 : Int) ≤ (a : Int) := by omega
            have n2 : (0 : Int) ≤ (b2 : Int) := by omega
            have n3 : (a : Int) < (N : Int) := by omega
            have n4 : (b2 : Int) < (N : Int) := by omega
            clear hrow hnm
            by_cases h1 : ta = a
            · subst h1
              by_cases h2 : tb = b2
              · subst h2
                cases hadj : s.adj a b2 <;> rw [hadj] at r2 <;> cases td
                · go_quiet (fail)
                  go_wp2_with fail
                  go_meet
                  exact ⟨by rw [HOK.out]; simp [eqStp, hadj], HR.out.below (belowN HB7.out _), belowN HB7.out _⟩
                · go_quiet (fail)
                  go_wp2_with fail
                  go_meet
                  exact ⟨by rw [HOK.out]; simp [eqStp, hadj], HR.out.below (belowN HB7.out _), belowN HB7.out _⟩
                · go_quiet (fail)
                  go_wp2_with fail
                  go_meet
                  exact ⟨by rw [HOK.out]; simp [eqStp, hadj], HR.out.below (belowN HB7.out _), belowN HB7.out _⟩
                · go_quiet (fail)
                  go_wp2_with fail
                  go_meet
                  exact ⟨by rw [HOK.out]; simp [eqStp, hadj], HR.out.below (belowN HB7.out _), belowN HB7.out _⟩
              · have k2 : (tb == (b2 : Int)) = false := by simp [h2]
                have k2' : decide (tb = (b2 : Int)) = false := by simp [h2]
                go_quiet (fail)
                go_wp2_with fail
                go_meet
                exact ⟨by rw [HOK.out]; simp [eqStp, h2, eq_comm], HR.out.below (belowN HB7.out _), belowN HB7.out _⟩
            · have k1 : (ta == (a : Int)) = false := by simp [h1]
              have k1' : decide (ta = (a : Int)) = false := by simp [h1]
              go_quiet (fail)
              go_wp2_with fail
              go_meet
              exact ⟨by rw [HOK.out]; simp [eqStp, h1, eq_comm], HR.out.below (belowN HB7.out _), belowN HB7.out _⟩
          | a :: b2 :: c2 :: rest, hle => simp at hle
      case rest =>
        obtain ⟨rfl, HRX, HBX⟩ := hcut
        cases hok : (mayS N s tv && eqStp (stepS N s tv.toNat) ⟨tv, ta, tb, td⟩)
        · have HRBX := Lib.hid ((HBX.out.block _ (by omega)).trans HRB.out)
          have HLOWX := Lib.hid (below_join HLOW.out HBX.out)
          have hwzx := HBX.out.size
          have HSX := Lib.hid (show Sl (wc.alloc (Obj.cells #[] 94)) (some ⟨b, off, none⟩) k cs 4 (stepCells (l.take k)) from by
            rw [← stepCells_take]
            exact (HSS.out.below (below_join HLOWX.out (below_alloc wc (Obj.cells #[] 94)))).take hk)
          have HF := Lib.hid (show (replayS N (beginS N es) l).2 = false by rw [HQ.out, HD.out]; simp [replayS, hok])
          clear hok
          go_wp2_with (first | (at_builtin; refine wpList_app _ rfl _ _ 25 rfl wc.heap.size 94 i0 _ 4 32 Try.underlying25 hi hz0 hz1 hz2 rfl (by decide) (.slice (some ⟨wc.heap.size, 0, none⟩) 0 0) 0 [] rfl (own_mk (cur := []) (heap_alloc_new wc _) (Nat.le_refl _) (Nat.le_refl _) (by unfold maxLen; omega) rfl rfl) _ k cs (stepCells (l.take k)) rfl HSX.out (stepCells_one _) (by unfold maxLen; omega) (by omega) (by simp) ?_; intro A7 c7 w7 hown7 hgrow7 hob7; have HB7 := Lib.hid (show Below wc.heap.size wc w7 from Below.grown (below_alloc wc _) hgrow7 (by simp) (by intro r hr; simp [Value.ownBlock] at hr; omega)); clear hown7 hgrow7 hob7) | (go_at_call 111; refine (Log10_any _ B bp N s gi ci ga ca Aa vs _ _ _ (HRX.out.below HB7.out) hN).mono ?_; rintro e w8 ⟨Al, nl, cl, Ae, ne, ce, rfl, hb8⟩; have HB8 := Lib.hid (below_join HB7.out hb8); clear hb8; have hrb8 := (HB8.out.block _ (by omega)).trans HRBX.out; obtain ⟨b0, b1, b2, bf0, bf1, bf2⟩ := cells3 hrb8; obtain ⟨x1, xf1, y2, yf2, z0, z1, z2⟩ := three_sets hrb8 (.slice A7 k c7) (.slice Al nl cl) (.slice Ae ne ce); have hr8 := (Array.getElem?_eq_some_iff.1 hrb8).1; clear hrb8))
          refine bodyPost_ret (v := .tuple #[.agg #[.slice A7 k c7, .slice Al nl cl, .slice Ae ne ce], .bool false]) (by simp [results, Try.results88, go_sem, z0, z1, z2]) rfl ?_
          refine ⟨⟨_, _, _, _, _, _, _, _, _, by rw [HF.out]⟩, ?_⟩
          exact (((below_join HLOWX.out HB8.out).setCell (by simp) _).setCell (by simp) _).setCell (by simp) _
        · obtain ⟨x, rfl, hx, hle⟩ : ∃ x : Nat, tv = x ∧ x < N ∧ (nearS N s x).length ≤ 2 := by
            simp [mayS] at hok
            obtain ⟨⟨⟨⟨h1, h2⟩, h3⟩, h4⟩, _⟩ := hok
            refine ⟨tv.toNat, by omega, by omega, h4⟩
          have HG := Lib.hid (show replayS N s (l.drop k) = replayS N (goS N s x) (l.drop (k + 1)) by rw [HD.out]; simp only [replayS, hok, if_true]; simp)
          have e0 := cell_keep HBX.out d0
          have hwzx := HBX.out.size
          clear hok d0 d1 d2 d3
          go_wp2_with ((go_at_call 112; refine (Go10_any _ B bp N s gi ci ga ca Aa vs x HRX.out hx hN hle (by omega)).mono ?_; rintro e w8 ⟨u, rfl, hr8, hb8⟩; have HR8 := Lib.hid hr8; have HB8 := Lib.hid hb8; clear hr8 hb8))
          go_roundw
          case rel => exact ⟨k + 1, goS N s x, by go_num, by omega, HR8.out, Lib.hid (by rw [HQ.out, HG.out]), (HB.out.trans (HBX.out.mono (by omega))).trans HB8.out⟩
          case measure => simp [intOf]; omega
    · obtain rfl : k = l.length := by omega
      have HRX := Lib.hid HR.out
      have HRBX := Lib.hid HRB.out
      have HSX := Lib.hid (HSS.out.below (below_join HLOW.out (below_alloc wr (Obj.cells #[] 94))))
      go_wp2_with (first | (at_builtin; refine wpList_app _ rfl _ _ 25 rfl wr.heap.size 94 i0 _ 4 32 Try.underlying25 hi hz0 hz1 hz2 rfl (by decide) (.slice (some ⟨wr.heap.size, 0, none⟩) 0 0) 0 [] rfl (own_mk (cur := []) (heap_alloc_new wr _) (Nat.le_refl _) (Nat.le_refl _) (by unfold maxLen; omega) rfl rfl) _ l.length cs (stepCells l) rfl HSX.out (stepCells_one _) (by unfold maxLen; omega) (by omega) (by simp) ?_; intro A7 c7 w7 hown7 hgrow7 hob7; have HB7 := Lib.hid (show Below wr.heap.size wr w7 from Below.grown (below_alloc wr _) hgrow7 (by simp) (by intro r hr; simp [Value.ownBlock] at hr; omega)); clear hown7 hgrow7 hob7) | (go_at_call 111; refine (Log10_any _ B bp N s gi ci ga ca Aa vs _ _ _ (HRX.out.below HB7.out) hN).mono ?_; rintro e w8 ⟨Al, nl, cl, Ae, ne, ce, rfl, hb8⟩; have HB8 := Lib.hid (below_join HB7.out hb8); clear hb8; have hrb8 := (HB8.out.block _ (by omega)).trans HRBX.out; obtain ⟨b0, b1, b2, bf0, bf1, bf2⟩ := cells3 hrb8; obtain ⟨x1, xf1, y2, yf2, z0, z1, z2⟩ := three_sets hrb8 (.slice A7 l.length c7) (.slice Al nl cl) (.slice Ae ne ce); have hr8 := (Array.getElem?_eq_some_iff.1 hrb8).1; clear hrb8))
      refine bodyPost_ret (v := .tuple #[.agg #[.slice A7 l.length c7, .slice Al nl cl, .slice Ae ne ce], .bool true]) (by simp [results, Try.results88, go_sem, z0, z1, z2]) rfl ?_
      refine ⟨⟨_, _, _, _, _, _, _, _, _, by rw [HQ.out, List.drop_length]; rfl⟩, ?_⟩
      exact (((below_join HLOW.out HB8.out).setCell (by simp) _).setCell (by simp) _).setCell (by simp) _
end Go.Proofs.Ytcbojlidfabgeaa
