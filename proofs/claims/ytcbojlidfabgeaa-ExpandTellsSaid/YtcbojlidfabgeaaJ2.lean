/- The program's layer 11: Lift. Conditions: a right graph of at most 30 vertices, at most 1000 steps; at most 1000 paths of at most 100 numbers each. -/
import Derived.Test.YtcbojlidfabgeaaJ1
namespace Go.Proofs.Ytcbojlidfabgeaa
open Go.RowKit
set_option linter.unusedVariables false
set_option linter.unusedSimpArgs false

def subV (kind : Int) (At : Option Addr) (nt ct : Nat) (Ap : Option Addr) (np cp : Nat) : Value := .agg #[.int .i64 kind, .slice At nt ct, .slice Ap np cp]
/-- A subdivision in memory. -/
def SubAt (w : World) (v : Value) (kind : Int) (tops : List Int) (paths : List (List Int)) : Prop := ∃ At ct Ap cp vs, v = subV kind At tops.length ct Ap paths.length cp ∧ Sl w At tops.length ct 1 (ints tops) ∧ Sl w Ap paths.length cp 1 vs ∧ RowsIn w vs paths
/-- What Lift hands back. -/
def LiftOut (w : World) (kind : Int) (tops : List Int) (res : Option (List (List Int))) (e : Ending) (w' : World) : Prop :=
  (∃ v, (match res with
    | some rows => e = .returned (.tuple #[v, .bool true]) ∧ SubAt w' v kind tops rows
    | none => e = .returned (.tuple #[v, .bool false]) ∧ SubAt w' v 0 [] [])) ∧ Below w.heap.size w w'
theorem SubAt.zero (w : World) : SubAt w (subV 0 none 0 0 none 0 0) 0 [] [] := ⟨none, 0, none, 0, [], rfl, ⟨rfl, Nat.le_refl _, by omega, .inl rfl⟩, ⟨rfl, Nat.le_refl _, by omega, .inl rfl⟩, RowsIn.nil _⟩
theorem info30' : (Try.prog.info? 30).map (fun i => (i.zero, i.size, i.bytes)) = some (some (.slice none 0 0), 1, 24) := by kernel_rfl
/-- While the rows go by: the subdivision that is made, and what else is read. -/
structure LiftP (w wr : World) (T : TypeId) (kind : Int) (tops : List Int) (H0 H1 H2 : Nat) (s0 s1 s2 : Value) (tv pv : Value) (vs : List Value) (rows : List (List Int)) : Prop where
  sx : wr.heap[H0]? = some (.cells #[s0, s1, s2] T (0, 0))
  rb : wr.heap[H1]? = some (.cells #[.int .i64 0, .slice none 0 0, .slice none 0 0] T (0, 0))
  ob : wr.heap[H2]? = some (.cells #[.int .i64 kind, tv, pv] T (0, 0))
  tops : wr.ownsRow w.heap.size 3 1 tv tops.length (ints tops)
  prow : wr.ownsRow w.heap.size 30 1 pv rows.length vs
  rows : RowsIn wr vs rows
  low : Below w.heap.size w wr
  lows : w.heap.size ≤ H2
section
variable {w wr w1 : World} {T : TypeId} {kind : Int} {tops : List Int} {H0 H1 H2 : Nat} {s0 s1 s2 tv pv : Value} {vs : List Value} {rows : List (List Int)}
theorem LiftP.below (h : LiftP w wr T kind tops H0 H1 H2 s0 s1 s2 tv pv vs rows) (hb : Below wr.heap.size wr w1) : LiftP w w1 T kind tops H0 H1 H2 s0 s1 s2 tv pv vs rows :=
  ⟨keep_blk hb h.sx, keep_blk hb h.rb, keep_blk hb h.ob, own_below h.tops hb, own_below h.prow hb, h.rows.below hb, below_join h.low hb, h.lows⟩
theorem LiftP.next (h : LiftP w wr T kind tops H0 H1 H2 s0 s1 s2 tv pv vs rows) (hT3 : T ≠ 3) (hT30 : T ≠ 30) {o : Obj} {v : Value} {xs : List Int} (hv : RowT wr v xs) {g cap : Nat} (hg : (wr.alloc o).grownBy w1 pv.ownBlock) (ho : w1.ownsRow w.heap.size 30 1 (.slice (some ⟨g, 0, none⟩) (rows.length + 1) cap) (rows.length + 1) (vs ++ [v])) (hne : H0 ≠ H2 ∧ H1 ≠ H2) :
    LiftP w (w1.setCell ⟨H2, 2, none⟩ (.slice (some ⟨g, 0, none⟩) (rows.length + 1) cap)) T kind tops H0 H1 H2 s0 s1 s2 tv (.slice (some ⟨g, 0, none⟩) (rows.length + 1) cap) (vs ++ [v]) (rows ++ [xs]) := by
  have hb := below_alloc wr o
  have n30 := own_no_ints h.prow (by decide : (30 : TypeId) ≠ 3)
  have sx1 := heap_keep hg hb h.sx (own_block_ne h.prow h.sx (Ne.symm hT30))
  have rb1 := heap_keep hg hb h.rb (own_block_ne h.prow h.rb (Ne.symm hT30))
  have ob1 := heap_keep hg hb h.ob (own_block_ne h.prow h.ob (Ne.symm hT30))
  have t1 := own_keep hg hb h.tops (own_type_ne h.tops h.prow (by decide))
  have r1 : RowsIn w1 (vs ++ [v]) (rows ++ [xs]) := (h.rows.keep hb hg n30).snoc (hv.keep hb hg n30)
  have hset := grownBy_setCell w1 H2 2 (.slice (some ⟨g, 0, none⟩) (rows.length + 1) cap)
  refine ⟨?_, ?_, heap_setCell (cs := [.int .i64 kind, tv, pv]) ob1 _, own_setCell t1 (own_block_ne t1 ob1 (Ne.symm hT3)), ?_, ?_, ?_, h.lows⟩
  · rw [heap_setCell_other _ _ _ _ (by simpa using hne.1)]; exact sx1
  · rw [heap_setCell_other _ _ _ _ (by simpa using hne.2)]; exact rb1
  · rw [List.length_append]; exact own_setCell ho (own_block_ne ho ob1 (Ne.symm hT30))
  · exact r1.keep (Below.refl _ _) hset (fun g' cs fr hh e => by
      injection e with e
      subst e
      rw [ob1] at hh
      injection hh with hh
      injection hh with _ ht
      exact hT3 ht)
  · exact (below_keep h.low h.low.size hg hb (fun r hr => (h.prow.lt r hr).1)).setCell (by simpa using h.lows) _
end
theorem three_other {w : World} {g b : Nat} {x y z : Value} (hne : b ≠ g) : (((w.setCell ⟨g, 0, none⟩ x).setCell ⟨g, 1, none⟩ y).setCell ⟨g, 2, none⟩ z).heap[b]? = w.heap[b]? := by
  rw [heap_setCell_other _ _ _ _ (by simpa using hne), heap_setCell_other _ _ _ _ (by simpa using hne), heap_setCell_other _ _ _ _ (by simpa using hne)]
theorem three_heap {w : World} {g : Nat} {t : TypeId} {a b c : Value} (h : w.heap[g]? = some (.cells #[a, b, c] t (0, 0))) (x y z : Value) : (((w.setCell ⟨g, 0, none⟩ x).setCell ⟨g, 1, none⟩ y).setCell ⟨g, 2, none⟩ z).heap[g]? = some (.cells #[x, y, z] t (0, 0)) :=
  heap_setCell (cs := [x, y, c]) (i := 2) (heap_setCell (cs := [x, b, c]) (i := 1) (heap_setCell (cs := [a, b, c]) (i := 0) h x) y) z
theorem three_own {w : World} {g : Nat} {t : TypeId} {a b c : Value} (h : w.heap[g]? = some (.cells #[a, b, c] t (0, 0))) (x y z : Value) {B : Nat} {e : TypeId} {s n : Nat} {v : Value} {xs : List Value} (ho : w.ownsRow B e s v n xs) (he : e ≠ t) : (((w.setCell ⟨g, 0, none⟩ x).setCell ⟨g, 1, none⟩ y).setCell ⟨g, 2, none⟩ z).ownsRow B e s v n xs :=
  own_setCell (own_setCell (own_setCell ho (own_block_ne ho h he)) (own_block_ne ho h he)) (own_block_ne ho h he)
theorem three_rows {w : World} {g : Nat} {t : TypeId} {a b c : Value} (h : w.heap[g]? = some (.cells #[a, b, c] t (0, 0))) (x y z : Value) {vs : List Value} {rows : List (List Int)} (hr : RowsIn w vs rows) (ht : 3 ≠ t) : RowsIn (((w.setCell ⟨g, 0, none⟩ x).setCell ⟨g, 1, none⟩ y).setCell ⟨g, 2, none⟩ z) vs rows := by
  have hg : w.grownBy (((w.setCell ⟨g, 0, none⟩ x).setCell ⟨g, 1, none⟩ y).setCell ⟨g, 2, none⟩ z) (some g) := grownBy_trans (grownBy_trans (grownBy_setCell w g 0 x) (grownBy_setCell _ g 1 y)) (grownBy_setCell _ g 2 z)
  exact hr.keep (Below.refl _ _) hg (fun g' cs fr hh e => by
    injection e with e
    subst e
    rw [h] at hh
    injection hh with hh
    injection hh with _ ht'
    exact ht ht'.symm)
theorem LiftP.start {w W : World} {T : TypeId} {kind : Int} {tops : List Int} {H0 H1 H2 : Nat} {s0 s1 s2 tv : Value} (h1 : W.heap[H0]? = some (.cells #[s0, s1, s2] T (0, 0))) (h2 : W.heap[H1]? = some (.cells #[.int .i64 0, .slice none 0 0, .slice none 0 0] T (0, 0))) (h3 : W.heap[H2]? = some (.cells #[.int .i64 kind, tv, .slice none 0 0] T (0, 0))) (h4 : W.ownsRow w.heap.size 3 1 tv tops.length (ints tops)) (h5 : Below w.heap.size w W) (h6 : w.heap.size ≤ H2) : LiftP w W T kind tops H0 H1 H2 s0 s1 s2 tv (.slice none 0 0) [] [] :=
  ⟨h1, h2, h3, h4, World.ownsRow_nil _ _ _ _, RowsIn.nil _, h5, h6⟩
set_option maxHeartbeats 6400000 in
set_option maxRecDepth 100000 in
theorem Lift_no (w : World) (N : Nat) (A : Option Addr) (c : Nat) (es : List (Int × Int)) (As : Option Addr) (cs : Nat) (l : List Stp) (kind : Int) (At : Option Addr) (nt ct : Nat) (Ap : Option Addr) (np cp : Nat) (tops : List Int) (h : Sl w A es.length c 2 (edgeCells es)) (hs : Sl w As l.length cs 4 (stepCells l)) (hsp : ∀ a, As = some a → a.spot = none) (hl : l.length ≤ 1000) (hN : N ≤ 30) (hright : rightB N es = true) (hno : (replayS N (beginS N es) l).2 = false) :
    Calls Try.prog 22 #[.agg #[.int .i64 N, .slice A es.length c], .slice As l.length cs, subV kind At nt ct Ap np cp] w (LiftOut w kind tops none) := by
  have H := Lib.hid h
  have HSS := Lib.hid hs
  have HRT := Lib.hid hright
  have HNO := Lib.hid hno
  clear h hs hright hno
  unfold subV
  go_enter Try.func22, Try.ntmps22
  go_wp2_with ((go_at_call 25; refine (Replay_any _ N A c es As cs l (H.out.below (below_join (below_join (below_alloc _ _) (below_alloc _ _)) (below_alloc _ _))) (HSS.out.below (below_join (below_join (below_alloc _ _) (below_alloc _ _)) (below_alloc _ _))) hsp hl (by omega) HRT.out).mono ?_; rintro e w4 ⟨⟨v, rfl, A1, n1, c1, Al, cl, Ae, ce, hv, _, _⟩, hb4⟩; unfold logV at hv; subst hv; rw [HNO.out]; have hres := keep_blk hb4 (alloc3 w (Obj.cells #[.int .i64 N, .slice A es.length c] 28) (Obj.cells #[.int .i64 kind, .slice At nt ct, .slice Ap np cp] 42) (Obj.cells #[.int .i64 0, .slice none 0 0, .slice none 0 0] 42)).2.2; have HRES := Lib.hid hres; obtain ⟨r0, r1, r2, rf0, rf1, rf2⟩ := cells3 hres; obtain ⟨x1, xf1, y2, yf2, z0, z1, z2⟩ := three_sets hres (.int .i64 0) (.slice none 0 0) (.slice none 0 0); have hrl := (Array.getElem?_eq_some_iff.1 hres).1; have HB4 := Lib.hid (below_join (below_join (below_join (below_alloc _ _) (below_alloc _ _)) (below_alloc _ _)) hb4); clear hb4 hres))
  refine bodyPost_ret (v := .tuple #[subV 0 none 0 0 none 0 0, .bool false]) (by simp [results, Try.results22, go_sem, z0, z1, z2, hrl, subV]) rfl ?_
  exact ⟨⟨_, rfl, SubAt.zero _⟩, (((HB4.out.setCell (by simp; omega) _).setCell (by simp; omega) _).setCell (by simp; omega) _).alloc (by have := HB4.out.size; simp; omega) _⟩
set_option maxHeartbeats 6400000 in
set_option maxRecDepth 100000 in
theorem Lift_yes (w : World) (N : Nat) (A : Option Addr) (c : Nat) (es : List (Int × Int)) (As : Option Addr) (cs : Nat) (l : List Stp) (kind : Int) (At : Option Addr) (ct : Nat) (Ap : Option Addr) (cp : Nat) (tops : List Int) (paths : List (List Int)) (vs : List Value) (h : Sl w A es.length c 2 (edgeCells es)) (hs : Sl w As l.length cs 4 (stepCells l)) (hsp : ∀ a, As = some a → a.spot = none) (hl : l.length ≤ 1000) (hN : N ≤ 30) (hright : rightB N es = true) (hok : (replayS N (beginS N es) l).2 = true)
    (hT : Sl w At tops.length ct 1 (ints tops)) (hP : Sl w Ap paths.length cp 1 vs) (hR : RowsIn w vs paths) (hnt : tops.length ≤ 1000) (hnp : paths.length ≤ 1000) (hpl : ∀ p ∈ paths, p.length ≤ 20 ∧ ∀ x ∈ p, InI x) :
    Calls Try.prog 22 #[.agg #[.int .i64 N, .slice A es.length c], .slice As l.length cs, subV kind At tops.length ct Ap paths.length cp] w (LiftOut w kind tops (liftAll (edge11S N es l) paths)) := by
  have hI := InvR.of (right_mem hright) l.reverse (by rwa [List.reverse_reverse])
  have hcn := (cnt_all (right_mem hright) l.reverse (by rwa [List.reverse_reverse])).2
  have hA28 : addedN l.reverse ≤ 28 := by omega
  have HST := Lib.hid (steps_range (N := N) (es := es) (by omega) l.reverse (by rwa [List.reverse_reverse]))
  have HG := Lib.hid hI.good
  have HE := Lib.hid (edge11_eq hright hok)
  have HEL := Lib.hid (edge11_len (l := l) hright hN)
  have H := Lib.hid h
  have HSS := Lib.hid hs
  have HRT := Lib.hid hright
  have HOK := Lib.hid hok
  have HT := Lib.hid hT
  have HP := Lib.hid hP
  have HRW := Lib.hid hR
  have HPL := Lib.hid hpl
  have hpm := hP.nm
  clear h hs hright hok hI hcn hT hP hR hpl
  obtain ⟨i0, hi, hz0, hz1, hz2⟩ := info_parts info3
  obtain ⟨i1, hj, hy0, hy1, hy2⟩ := info_parts info30'
  unfold subV
  go_enter Try.func22, Try.ntmps22
  go_wp2_with (first | (go_at_call 25; refine (Replay_any _ N A c es As cs l (H.out.below (below_join (below_join (below_alloc _ _) (below_alloc _ _)) (below_alloc _ _))) (HSS.out.below (below_join (below_join (below_alloc _ _) (below_alloc _ _)) (below_alloc _ _))) hsp hl (by omega) HRT.out).mono ?_; rintro e w4 ⟨⟨v, rfl, A1, n1, c1, Al, cl, Ae, ce, hv, _, _⟩, hb4⟩; unfold logV at hv; subst hv; rw [HOK.out]; obtain ⟨q0, q1, q2⟩ := alloc3 w (Obj.cells #[.int .i64 N, .slice A es.length c] 28) (Obj.cells #[.int .i64 kind, .slice At tops.length ct, .slice Ap paths.length cp] 42) (Obj.cells #[.int .i64 0, .slice none 0 0, .slice none 0 0] 42); have hg4 := keep_blk hb4 q0; have HS4 := Lib.hid (keep_blk hb4 q1); have HZ4 := Lib.hid (keep_blk hb4 q2); obtain ⟨gg0, gg1, _, _⟩ := cells2 hg4; have hgl := (Array.getElem?_eq_some_iff.1 hg4).1; have HB4 := Lib.hid (below_join (below_join (below_join (below_alloc _ _) (below_alloc _ _)) (below_alloc _ _)) hb4); clear hb4 hg4 q0 q1 q2) | (go_at_call 47; refine (exp_yes _ N A c es As cs l (H.out.below (below_join HB4.out (below_alloc _ _))) (HSS.out.below (below_join HB4.out (below_alloc _ _))) hsp hl (by omega) HRT.out HOK.out).mono ?_; rintro e w5 ⟨⟨mb, gb, ib, M, n, rfl, hby, hgb⟩, hb5⟩; have HBY5 := Lib.hid hby; have HGB5 := Lib.hid hgb; have HS5 := Lib.hid (keep_blk hb5 (keep_blk (below_alloc _ _) HS4.out)); have HZ5 := Lib.hid (keep_blk hb5 (keep_blk (below_alloc _ _) HZ4.out)); have HB5 := Lib.hid (below_join (below_join HB4.out (below_alloc _ _)) hb5); clear hb5 hby hgb))
  clear gg0 gg1 hgl HS4 HZ4 HB4
  go_cut [11] from 30 to 35 (fun r wx => ∃ (H2 : Nat) (A6 : Option Addr) (c6 : Nat), r = .pointer (some ⟨H2, 0, none⟩) ∧ Hid (LiftP w5 wx 42 kind tops (w.heap.size + 1) (w.heap.size + 1 + 1) H2 (.int .i64 kind) (.slice At tops.length ct) (.slice Ap paths.length cp) (.slice A6 tops.length c6) (.slice none 0 0) [] []) ∧ w.heap.size + 1 + 1 < H2)
  case first =>
    obtain ⟨s0, s1, s2, _, _, _⟩ := cells3 HS5.out
    have h5s := HB5.out.size
    have h5z := (Array.getElem?_eq_some_iff.1 HZ5.out).1
    have hne : w.heap.size + 1 ≠ w5.heap.size := by omega
    go_region_held3 (fun w' => w'.cell? ⟨w.heap.size + 1, 0, none⟩ = some (.int .i64 kind) ∧ w'.cell? ⟨w.heap.size + 1, 1, none⟩ = some (.slice At tops.length ct)) (first | (refine ⟨?_, ?_⟩ <;> first | assumption | ((with_reducible refine cell_set_far ?_ hne); (with_reducible refine cell_set_far ?_ hne); (with_reducible refine cell_set_far ?_ hne); assumption) | go_keep)) (first | (go_at_call 50; refine (CloneI _ At tops.length ct tops ((HT.out.below HB5.out).below (by first | exact Below.refl _ _ | exact (Below.refl _ _).drew | exact below_drewN _ _ | exact below_alloc _ _ | exact (below_alloc _ _).drew | exact below_dn (below_alloc _ _) _)) (by omega)).mono ?_; rintro e w6 ⟨⟨A6, c6, rfl, hot⟩, hb6⟩; (first | (have hob := newcell_d hb6; have HOB := Lib.hid hob; obtain ⟨o0, o1, o2, of0, of1, of2⟩ := cells3 hob; obtain ⟨x1, xf1, y2, yf2, z0, z1, z2⟩ := three_sets hob (.int .i64 kind) (.slice A6 tops.length c6) (.slice none 0 0); clear hob) | skip); have hb56 : Below w5.heap.size w5 w6 := (by first | exact hb6 | exact below_join (Below.refl _ _).drew hb6 | exact below_join (below_alloc _ _).drew hb6); have k0 := cell_keep hb56 s0; have k1 := cell_keep hb56 s1; have hsl6 := World.block_lt_of_cell? w6 _ k0; have HOT := Lib.hid (own_mono hot (show w5.heap.size ≤ _ from (by first | exact Nat.le_refl _ | (simp; done) | (simp; omega)))); have HB56 := Lib.hid hb56; clear hot hb6 hb56))
    all_goals go_wp2_with fail
    all_goals go_meet
    all_goals first | (have hxob := HOB.out; clear hxob; exact ⟨w5.heap.size, A6, c6, rfl, LiftP.start ((three_other hne).trans (keep_blk HB56.out HS5.out)) ((three_other (by omega)).trans (keep_blk HB56.out HZ5.out)) (three_heap HOB.out _ _ _) (three_own HOB.out _ _ _ HOT.out (by decide)) (((HB56.out.setCell (by simp) _).setCell (by simp) _).setCell (by simp) _) (Nat.le_refl _), by omega⟩) | exact ⟨w6.heap.size, A6, c6, rfl, LiftP.start (keep_blk (below_alloc _ _) (keep_blk HB56.out HS5.out)) (keep_blk (below_alloc _ _) (keep_blk HB56.out HZ5.out)) (heap_alloc_new _ _) (own_below HOT.out (below_alloc _ _)) (below_join HB56.out (below_alloc _ _)) HB56.out.size, by have := HB56.out.size; omega⟩
  case rest =>
    obtain ⟨H2, A6, c6, rfl, HI7, hH2⟩ := hcut
    clear HS5 HZ5
    obtain ⟨s0, s1, s2, _, _, _⟩ := cells3 HI7.out.sx
    go_wp2_with fail
    clear s0 s1 s2
    go_loopw [39] (fun i wr => ∃ (k : Nat) (pv : Value) (vs' : List Value) (rows : List (List Int)), i = .int .i64 k ∧ k ≤ paths.length ∧ rows.length ≤ k ∧ Hid (LiftP w5 wr 42 kind tops (w.heap.size + 1) (w.heap.size + 1 + 1) H2 (.int .i64 kind) (.slice At tops.length ct) (.slice Ap paths.length cp) (.slice A6 tops.length c6) pv vs' rows) ∧ Hid (liftAll (edge11S N es l) (paths.take k) = some rows)) (fun i _ => paths.length - (intOf i).toNat)
    case atStart => exact ⟨0, _, [], [], rfl, Nat.zero_le _, Nat.le_refl _, HI7.out, rfl⟩
    case round =>
      clear HI7
      obtain ⟨k, pv, vs', rows, rfl, hk, hrk, HI, HQ⟩ := hrel
      have HLW := Lib.hid (below_join HB5.out HI.out.low)
      by_cases hlt : k < paths.length
      · obtain ⟨b, off, hA, hc⟩ := HP.out.at' (by omega)
        subst hA
        obtain ⟨p, hp⟩ : ∃ p, paths[k]? = some p := ⟨_, List.getElem?_eq_getElem hlt⟩
        obtain ⟨Av, cv, hv, hsl⟩ := HRW.out.get hp
        have d0 := cell_keep HLW.out (hc _ _ hv)
        have HSL := Lib.hid hsl
        have hpl := (HPL.out p (List.mem_of_getElem? hp)).1
        have HPI := Lib.hid (HPL.out p (List.mem_of_getElem? hp)).2
        have HPK := Lib.hid hp
        have hcv := hsl.cap
        have hcvm := hsl.capm
        obtain ⟨h, hh⟩ : ∃ h, min 1 p.length = h := ⟨_, rfl⟩
        have hmin : min (1 : Int) (p.length : Int) = (h : Int) := by omega
        have hh1 : h ≤ p.length := by omega
        obtain ⟨ao, hao, hrun⟩ := slice30_hi Av p.length cv h (by omega)
        have hrun1 := fun W => hrun W _ rfl
        have HT1 := Lib.hid (show p.take h = p.take 1 by rw [← hh]; by_cases e : p.length = 0; (rw [List.length_eq_zero_iff.1 e]; rfl); rw [show min 1 p.length = 1 by omega])
        have HSH := Lib.hid (hsl.hi hh1 hao)
        have hh0 : (0 : Int) ≤ (h : Int) := by omega
        have hlen1 : (p.take 1).length = h := by simp; omega
        have HLN := Lib.hid hlen1
        clear hc hv hsl hp hh hrun hao hlen1
        go_wp2_with ((go_at_call 50; refine (CloneI _ ao h cv (p.take h) (HSH.out.below HLW.out) (by omega)).mono ?_; rintro e w8 ⟨⟨A8, c8, rfl, hoa⟩, hb8⟩; have HOA := Lib.hid hoa; have HB8 := Lib.hid hb8; clear hoa hb8))
        obtain ⟨wz, hwz⟩ : ∃ wz : World, wz = wr := ⟨_, rfl⟩
        rw [← hwz] at HI HLW HOA HB8
        clear hwz hrun1 hmin d0
        go_loopw [52, 14] (fun i v wq => ∃ (m : Nat) (acc : List Int) (A' : Option Addr) (c' : Nat), i = .int .i64 m ∧ m ≤ p.length - 1 ∧ v = .slice A' acc.length c' ∧ Hid (wq.ownsRow wz.heap.size 3 1 (.slice A' acc.length c') acc.length (ints acc)) ∧ Hid (liftTo (edge11S N es l) p m = some acc) ∧ Hid (Below wz.heap.size wz wq)) (fun i _ _ => p.length - (intOf i).toNat)
        case atStart => exact ⟨0, p.take 1, A8, c8, rfl, Nat.zero_le _, by rw [HLN.out], by rw [HLN.out, ← HT1.out]; exact HOA.out, rfl, HB8.out⟩
        case round =>
          clear HOA HB8
          obtain ⟨m, acc, A', c', rfl, hm, rfl, HO, HAC, HBQ⟩ := hrel
          have hal := liftTo_len HEL.out HAC.out
          have HLQ := Lib.hid (below_join HLW.out HBQ.out)
          have HL5 := Lib.hid (below_join HI.out.low HBQ.out)
          have hbz := HBQ.out.size
          by_cases hm1 : m + 1 < p.length
          · obtain ⟨x, hx⟩ : ∃ x, p[m]? = some x := ⟨_, List.getElem?_eq_getElem (by omega)⟩
            obtain ⟨y, hy⟩ : ∃ y, p[m + 1]? = some y := ⟨_, List.getElem?_eq_getElem hm1⟩
            obtain ⟨bp, op, hAv, hcp⟩ := HSL.out.at' (by omega)
            subst hAv
            have e0 := cell_keep HLQ.out (hcp _ _ (ints_get hx))
            have e1 := cell_keep HLQ.out (hcp _ _ (ints_get hy))
            have ix := HPI.out x (List.mem_of_getElem? hx)
            have iy := HPI.out y (List.mem_of_getElem? hy)
            have HSU := Lib.hid (liftTo_succ HAC.out hx hy)
            have HBYQ := Lib.hid (HBY5.out.below HL5.out)
            have hmu : m * 268435458 ≤ 20 * 268435458 := Nat.mul_le_mul_right _ (by omega)
            have hw1 : IntKind.i64.wrap ((m : Int) + 1) = (m : Int) + 1 := IntWalk.i64_in _ (by omega)
            have hn0 : (0 : Int) ≤ (m : Int) + 1 := by omega
            have hn1 : ((m : Int) + 1).toNat = m + 1 := by omega
            have hn2 : (m : Int) + 1 < (p.length : Int) := by omega
            have hn3 : (m : Int) < (p.length : Int) - 1 := by omega
            have hn4 : (m : Int) < (p.length : Int) := by omega
            have hn5 : (0 : Int) ≤ (m : Int) := by omega
            clear hcp hx hy
            go_upto_region 13 with (fail)
            have hw2 : (IntKind.i64.wrap ((m : Int) + 1)).toNat = m + 1 := by rw [hw1]; exact hn1
            go_region_held3 (fun w' => w'.cell? ⟨bp, op + m, none⟩ = some (.int .i64 x) ∧ w'.cell? ⟨bp, op + (m + 1), none⟩ = some (.int .i64 y)) (first | (refine ⟨?_, ?_⟩ <;> first | assumption | go_keep)) (first | (go_at_call 87; refine (outer_any es l.reverse HG.out HST.out hA28 mb ib gb M n N A c x y ix iy _ (HBYQ.out.below (by first | exact Below.refl _ _ | exact (Below.refl _ _).drew | exact below_drewN _ _)) (keep_blk (by first | exact Below.refl _ _ | exact (Below.refl _ _).drew | exact below_drewN _ _) (keep_blk HL5.out HGB5.out)) ((H.out.below HLQ.out).below (by first | exact Below.refl _ _ | exact (Below.refl _ _).drew | exact below_drewN _ _)) (by omega) HRT.out).mono ?_; rintro e w9 ⟨⟨A9, c9, rfl, hr9⟩, hb9⟩; have hb99 : Below wr.heap.size wr w9 := (by first | exact hb9 | exact below_join (Below.refl _ _).drew hb9 | exact below_join (below_drewN _ _) hb9); have z0 := cell_keep hb99 e0; have z1 := cell_keep hb99 e1; have HR9 := Lib.hid hr9; have HB9 := Lib.hid hb99; clear hr9 hb9 hb99))
            clear e0 e1 hw1 hw2 hn0 hn1 hn2 hn3 hn4 hn5
            have HEX := Lib.hid (HE.out x y)
            have hlq := HEL.out x y
            rw [HEX.out] at hlq
            cases hh : hasR es l.reverse x y
            · have HNO := Lib.hid (show liftAll (edge11S N es l) paths = none from liftAll_none (List.mem_of_getElem? HPK.out) (liftTo_none (k := m + 1) (by rw [HSU.out, if_pos]; rw [HEX.out]; exact edgeR_none hh) (by omega)))
              have HZ9 := Lib.hid (keep_blk HB9.out (keep_blk HBQ.out HI.out.rb))
              obtain ⟨r0, r1, r2, rf0, rf1, rf2⟩ := cells3 HZ9.out
              obtain ⟨x1, xf1, y2, yf2, z0, z1, z2⟩ := three_sets HZ9.out (.int .i64 0) (.slice none 0 0) (.slice none 0 0)
              have hrl := (Array.getElem?_eq_some_iff.1 HZ9.out).1
              go_wp2_with fail
              refine bodyPost_ret (v := .tuple #[subV 0 none 0 0 none 0 0, .bool false]) (by simp [results, Try.results22, go_sem, z0, z1, z2, hrl, subV]) rfl ?_
              rw [HNO.out]
              exact ⟨⟨_, rfl, SubAt.zero _⟩, (((below_join HLQ.out HB9.out).setCell (by simp; omega) _).setCell (by simp; omega) _).setCell (by simp; omega) _⟩
            · have h2 : 2 ≤ (edgeR es l.reverse x y).length := by rw [edgeR_one hh]; simp
              have HNE := Lib.hid (show edge11S N es l x y ≠ [] by rw [HEX.out]; intro e; rw [e] at h2; simp at h2)
              have hs9 := (RowT.sl HR9.out).2
              have hc9 := hs9.cap
              have hc9m := hs9.capm
              obtain ⟨ao9, hao9, hrun9⟩ := slice30_lo A9 (edgeR es l.reverse x y).length c9 1 (by omega)
              have hrun91 := fun W => hrun9 W 1 rfl
              have HS9 := Lib.hid (hs9.lo1 h2 hao9)
              have HO9 := Lib.hid (own_below HO.out HB9.out)
              have hb9s := HB9.out.size
              clear hs9 hao9 hrun9 hh
              go_wp2_with ((at_builtin; refine wpList_app _ rfl _ _ 30 rfl wz.heap.size 3 i0 (Value.int .i64 0) 1 8 Try.underlying30 hi hz0 hz1 hz2 rfl (by decide) (.slice A' acc.length c') acc.length (ints acc) rfl HO9.out ao9 ((edgeR es l.reverse x y).length - 1) (c9 - 1) (ints ((edgeR es l.reverse x y).drop 1)) rfl HS9.out (ints_oneCell _) (by unfold maxLen; omega) (by omega) (by omega) ?_; intro A2 c2 w10 hown2 hgrow2 hat2; have HO2 := Lib.hid hown2; have HB2 := Lib.hid ((below_join HBQ.out HB9.out).grown hgrow2 (by omega) (fun r hr => (HO9.out.lt r hr).1)); clear hown2 hgrow2 hat2))
              go_roundw
              case rel => exact ⟨m + 1, acc ++ (edge11S N es l x y).drop 1, A2, c2, by go_num, by omega, by rw [HEX.out]; simp, by rw [HEX.out, ints_append]; have h := HO2.out; simp only [List.length_append, List.length_drop]; exact h, HSU.out.trans (if_neg HNE.out), HB2.out⟩
              case measure => simp [intOf]; omega
          · obtain rfl : m = p.length - 1 := by omega
            have HROW := Lib.hid (show liftAll (edge11S N es l) (paths.take (k + 1)) = some (rows ++ [acc]) from liftAll_take HPK.out HQ.out HAC.out)
            have HIQ := Lib.hid (HI.out.below HBQ.out)
            have HRA := Lib.hid (RowT.of_own HO.out)
            obtain ⟨o0, o1, o2, of0, of1, of2⟩ := cells3 HIQ.out.ob
            have hob := (Array.getElem?_eq_some_iff.1 HIQ.out.ob).1
            have hn3 : ¬ (((p.length - 1 : Nat) : Int) < (p.length : Int) - 1) := by omega
            have h5r := HIQ.out.low.size
            have hnH : w.heap.size + 1 ≠ H2 ∧ w.heap.size + 1 + 1 ≠ H2 := by omega
            have HNH := Lib.hid hnH
            clear hnH
            go_wp2_with ((at_builtin; refine wpList_append_lies _ rfl _ _ 38 rfl w5.heap.size 30 i1 (Value.slice none 0 0) 1 24 Try.underlying38 hj hy0 hy1 hy2 rfl (by decide) pv rows.length vs' rfl (HIQ.out.prow.alloc _) ⟨wr.heap.size, 0, none⟩ 1 1 [.slice A' acc.length c'] rfl rfl (World.news_of_block (cs := #[.slice A' acc.length c']) (t := 30) (fr := (0, 0)) (heap_alloc_new wr _)) (by simp [Value.oneCell']) (by omega) (by unfold maxLen; omega) (by omega) (by simp; omega) _ rfl ?_; intro g2 cap2 w11 hown1 hgrow hat hlt2; have hk1 := heap_keep hgrow (below_alloc _ _) HIQ.out.ob (own_block_ne HIQ.out.prow HIQ.out.ob (by decide)); obtain ⟨v0, v1, v2, vf0, vf1, vf2⟩ := cells3 hk1; have HI1 := Lib.hid (HIQ.out.next (by decide) (by decide) HRA.out hgrow hown1 HNH.out); clear hown1 hgrow hat hlt2 hk1))
            go_roundw
            case rel => exact ⟨k + 1, _, _, _, by go_num, by omega, by simp; omega, HI1.out, HROW.out⟩
            case measure => simp [intOf]; omega
      · obtain rfl : k = paths.length := by omega
        rw [List.take_length] at HQ
        obtain ⟨Ap', cp', rfl, hslp⟩ := Sl.of_own HI.out.prow
        obtain ⟨o0, o1, o2, of0, of1, of2⟩ := cells3 HI.out.ob
        obtain ⟨r0, r1, r2, rf0, rf1, rf2⟩ := cells3 HI.out.rb
        obtain ⟨x1, xf1, y2, yf2, z0, z1, z2⟩ := three_sets HI.out.rb (.int .i64 kind) (.slice A6 tops.length c6) (.slice Ap' rows.length cp')
        have hrl := (Array.getElem?_eq_some_iff.1 HI.out.rb).1
        have HSP := Lib.hid hslp
        clear hslp
        go_wp2_with fail
        refine bodyPost_ret (v := .tuple #[subV kind A6 tops.length c6 Ap' rows.length cp', .bool true]) (by simp [results, Try.results22, go_sem, z0, z1, z2, hrl, subV]) rfl ?_
        rw [HQ.out]
        have hz := HI.out.rb
        have hb1 := three_own hz (.int .i64 kind) (.slice A6 tops.length c6) (.slice Ap' rows.length cp') HI.out.tops (by decide)
        have hb2 := three_own hz (.int .i64 kind) (.slice A6 tops.length c6) (.slice Ap' rows.length cp') HI.out.prow (by decide)
        have hb3 := three_rows hz (.int .i64 kind) (.slice A6 tops.length c6) (.slice Ap' rows.length cp') HI.out.rows (by decide)
        exact ⟨⟨_, rfl, A6, c6, Ap', cp', vs', rfl, Sl.of_own' hb1, Sl.of_own' hb2, hb3⟩, ((HLW.out.setCell (by simp; omega) _).setCell (by simp; omega) _).setCell (by simp; omega) _⟩
/-- What is lifted, by the document: nothing, if the steps can't be done. -/
def lift11S (N : Nat) (es : List (Int × Int)) (l : List Stp) (paths : List (List Int)) : Option (List (List Int)) := if (replayS N (beginS N es) l).2 then liftAll (edge11S N es l) paths else none
theorem Lift_any (w : World) (N : Nat) (A : Option Addr) (c : Nat) (es : List (Int × Int)) (As : Option Addr) (cs : Nat) (l : List Stp) (kind : Int) (v : Value) (tops : List Int) (paths : List (List Int)) (h : Sl w A es.length c 2 (edgeCells es)) (hs : Sl w As l.length cs 4 (stepCells l)) (hsp : ∀ a, As = some a → a.spot = none) (hl : l.length ≤ 1000) (hN : N ≤ 30) (hright : rightB N es = true)
    (hv : SubAt w v kind tops paths) (hnt : tops.length ≤ 1000) (hnp : paths.length ≤ 1000) (hpl : ∀ p ∈ paths, p.length ≤ 20 ∧ ∀ x ∈ p, InI x) :
    Calls Try.prog 22 #[.agg #[.int .i64 N, .slice A es.length c], .slice As l.length cs, v] w (LiftOut w kind tops (lift11S N es l paths)) := by
  obtain ⟨At, ct, Ap, cp, vs, rfl, hT, hP, hR⟩ := hv
  unfold lift11S
  cases hok : (replayS N (beginS N es) l).2
  · exact Lift_no w N A c es As cs l kind At tops.length ct Ap paths.length cp tops h hs hsp hl hN hright hok
  · exact Lift_yes w N A c es As cs l kind At ct Ap cp tops paths vs h hs hsp hl hN hright hok hT hP hR hnt hnp hpl
end Go.Proofs.Ytcbojlidfabgeaa
