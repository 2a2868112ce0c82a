/- The closure that expander hands back: the path for which an edge stands. Conditions: steps of a right graph that can all be done, not too many. -/
import Derived.Test.YtcbojlidfabgeaaI4
import Derived.Test.YtcbojlidfabgeaaG6
namespace Go.Proofs.Ytcbojlidfabgeaa
open Go.RowKit Go.WideMaps
set_option linter.unusedVariables false
set_option linter.unusedSimpArgs false

theorem find_some_any (R : List Stp) (a b : Int) : (R.find? fun t => pairB t a b).isSome = R.any fun t => pairB t a b := by
  induction R with
  | nil => rfl
  | cons t r ih =>
    rw [List.find?_cons, List.any_cons]
    cases pairB t a b
    · simpa using ih
    · rfl
def EdgP (w : World) (xs : List Int) (ok : Bool) (e : Ending) (w' : World) : Prop := (∃ A c, e = .returned (.tuple #[.slice A xs.length c, .bool ok]) ∧ RowT w' (.slice A xs.length c) xs) ∧ Below w.heap.size w w'
theorem noexp_any (w : World) (a b : Int) : Calls Try.prog 84 #[.int .i64 a, .int .i64 b] w (EdgP w [] false) := by
  go_enter Try.func84, Try.ntmps84
  go_wp2_with fail
  go_ret2
  exact ⟨⟨none, 0, rfl, RowT.nil _⟩, Below.refl _ _⟩
set_option maxHeartbeats 3200000 in
set_option maxRecDepth 100000 in
theorem outer_any (es : List (Int × Int)) (R : List Stp) (hg : GoodR es R) (hst : ∀ t ∈ R, StI t) (hA : addedN R ≤ 28) (mb ib gb M n : Nat) (N : Nat) (A : Option Addr) (c : Nat) (a b : Int) (ha : InI a) (hb : InI b) (w : World) (hw : ByP w mb ib M n R)
    (hgb : w.heap[gb]? = some (.cells #[.int .i64 N, .slice A es.length c] 28 (0, 0))) (hS : Sl w A es.length c 2 (edgeCells es)) (hN : N ≤ 1000) (hright : rightB N es = true) :
    Calls Try.prog 87 #[.int .i64 a, .int .i64 b, .pointer (some ⟨mb, 0, none⟩), .pointer (some ⟨gb, 0, none⟩), .pointer (some ⟨ib, 0, none⟩)] w (EdgP w (edgeR es R a b) (hasR es R a b)) := by
  have hmn : InI (min a b) := by unfold InI at *; omega
  have hmx : InI (max a b) := by unfold InI at *; omega
  have hl := lookR_min R hst a b
  obtain ⟨hhas, _⟩ := mapR_look R hst hmn hmx
  rw [hl, Option.isSome_map, find_some_any] at hhas
  have HHAS := Lib.hid hhas
  have HK := Lib.hid (keyOf_edge hmn hmx)
  have HW := Lib.hid hw
  have HGB := Lib.hid hgb
  have HS := Lib.hid hS
  have HRT := Lib.hid hright
  have c0 := hw.m
  have c1 := hw.i
  obtain ⟨g0, g1, _, _⟩ := cells2 hgb
  have hl1 := innR_small hA a b
  have HIN := Lib.hid (inner_any es R hg hst hA mb ib M n R a b ha hb (Suf.full R a b))
  have HHA := Lib.hid (show hasR es R a b = (decide (both es a b) || R.any fun t => pairB t a b) from rfl)
  have HNB := Lib.hid (show decide (b ∈ nbL es a) = decide (both es a b) from decide_eq_decide.2 nbL_mem)
  have hib := World.block_lt_of_cell? w _ c1
  have hgbl := (Array.getElem?_eq_some_iff.1 hgb).1
  clear hhas hl hw hgb hS hright
  cases hany : R.any fun t => pairB t a b
  · cases hbo : decide (both es a b)
    · -- nothing
      have HF := Lib.hid (show hasR es R a b = false by rw [HHA.out, hany, hbo]; rfl)
      have HE := Lib.hid (edgeR_none HF.out)
      rw [hany] at HHAS
      rw [hbo] at HNB
      clear hany hbo
      go_enter Try.func87, Try.ntmps87
      go_wp2_with (first | (at_lookup; refine wpList_lookup_own_ok_int _ rfl _ _ 133 rfl 59 3 .i64 keyed59 Try.underlying133 Try.underlying3 (zeroE3 _) M n (mapR R) rfl HW.out.own _ (ek (min a b) (max a b)) rfl HK.out ?_; intro c hat hwc; rw [HHAS.out]; clear hat hwc) | (go_at_call 27; refine (GHas_ok _ N A _ es a b HS.out hN HRT.out).mono ?_; rintro e w4 ⟨rfl, hb4⟩; rw [HNB.out]; have HB4 := Lib.hid hb4; clear hb4))
      go_ret2
      rw [HE.out, HF.out]
      exact ⟨⟨none, 0, rfl, RowT.nil _⟩, HB4.out⟩
    · have HF := Lib.hid (show hasR es R a b = true by rw [HHA.out, hany, hbo]; rfl)
      have HE := Lib.hid (show edgeR es R a b = [a] ++ (innR R a b ++ [b]) from edgeR_one HF.out)
      rw [hany] at HHAS
      rw [hbo] at HNB
      clear hany hbo
      go_enter Try.func87, Try.ntmps87
      go_wp2_with (first | (at_lookup; refine wpList_lookup_own_ok_int _ rfl _ _ 133 rfl 59 3 .i64 keyed59 Try.underlying133 Try.underlying3 (zeroE3 _) M n (mapR R) rfl HW.out.own _ (ek (min a b) (max a b)) rfl HK.out ?_; intro c hat hwc; rw [HHAS.out]; clear hat hwc) | (go_at_call 27; refine (GHas_ok _ N A _ es a b HS.out hN HRT.out).mono ?_; rintro e w4 ⟨rfl, hb4⟩; rw [HNB.out]; have q1 := cell_keep hb4 c1; have hib4 := World.block_lt_of_cell? w4 _ q1; have HW4 := Lib.hid (HW.out.below hb4); have HB4 := Lib.hid hb4; clear hb4) | (go_at_call 85; (with_reducible refine (HIN.out _ ?_).mono ?_); (exact HW4.out.below (by first | exact Below.refl _ _ | exact (Below.refl _ _).drew | exact below_drewN _ _ | exact below_alloc _ _ | exact (below_alloc _ _).drew | exact below_dn (below_alloc _ _) _ | exact below_join (below_alloc _ _) (below_alloc _ _) | exact (below_join (below_alloc _ _) (below_alloc _ _)).drew | exact below_dn (below_join (below_alloc _ _) (below_alloc _ _)) _)); rintro e w5 ⟨⟨A5, c5, rfl, hr5⟩, hb5⟩; have HR5 := Lib.hid hr5; have HV5 := Lib.hid (newcell hb5); have HB5 := Lib.hid (below_join (below_join HB4.out (by first | exact Below.refl _ _ | exact (Below.refl _ _).drew | exact below_drewN _ _ | exact below_alloc _ _ | exact (below_alloc _ _).drew | exact below_dn (below_alloc _ _) _ | exact below_join (below_alloc _ _) (below_alloc _ _) | exact (below_join (below_alloc _ _) (below_alloc _ _)).drew | exact below_dn (below_join (below_alloc _ _) (below_alloc _ _)) _)) hb5); clear hr5 hb5) | (go_at_call 86; (with_reducible refine (Concat3 _ _ ?_ ?_ ?_ [a] (innR R a b) [b] ?_ ?_ ?_ ?_ ?_).mono ?_); rotate_left 3; (first | exact heap_alloc_new _ _ | exact alloc_two' _ _ _); (exact row_one (keep_blk (by first | exact Below.refl _ _ | exact (Below.refl _ _).drew | exact below_drewN _ _ | exact below_alloc _ _ | exact (below_alloc _ _).drew | exact below_dn (below_alloc _ _) _ | exact below_join (below_alloc _ _) (below_alloc _ _) | exact (below_join (below_alloc _ _) (below_alloc _ _)).drew | exact below_dn (below_join (below_alloc _ _) (below_alloc _ _)) _) HV5.out)); (exact HR5.out.below (by first | exact Below.refl _ _ | exact (Below.refl _ _).drew | exact below_drewN _ _ | exact below_alloc _ _ | exact (below_alloc _ _).drew | exact below_dn (below_alloc _ _) _ | exact below_join (below_alloc _ _) (below_alloc _ _) | exact (below_join (below_alloc _ _) (below_alloc _ _)).drew | exact below_dn (below_join (below_alloc _ _) (below_alloc _ _)) _)); (exact row_one (alloc_two _ _ _)); (simp; omega); rintro e w9 ⟨⟨A9, c9, rfl, hown9⟩, hb9⟩; have HO9 := Lib.hid hown9; have HB9 := Lib.hid (below_join (below_join HB5.out (by first | exact Below.refl _ _ | exact (Below.refl _ _).drew | exact below_drewN _ _ | exact below_alloc _ _ | exact (below_alloc _ _).drew | exact below_dn (below_alloc _ _) _ | exact below_join (below_alloc _ _) (below_alloc _ _) | exact (below_join (below_alloc _ _) (below_alloc _ _)).drew | exact below_dn (below_join (below_alloc _ _) (below_alloc _ _)) _)) hb9); clear hown9 hb9))
      go_ret2
      rw [HE.out, HF.out]
      exact ⟨⟨A9, c9, by simp, RowT.of_own HO9.out⟩, HB9.out⟩
  · have HF := Lib.hid (show hasR es R a b = true by rw [HHA.out, hany, Bool.or_true])
    have HE := Lib.hid (show edgeR es R a b = [a] ++ (innR R a b ++ [b]) from edgeR_one HF.out)
    rw [hany] at HHAS
    clear hany
    go_enter Try.func87, Try.ntmps87
    go_wp2_with (first | (at_lookup; refine wpList_lookup_own_ok_int _ rfl _ _ 133 rfl 59 3 .i64 keyed59 Try.underlying133 Try.underlying3 (zeroE3 _) M n (mapR R) rfl HW.out.own _ (ek (min a b) (max a b)) rfl HK.out ?_; intro c hat hwc; rw [HHAS.out]; clear hat hwc) | (go_at_call 85; (with_reducible refine (HIN.out _ ?_).mono ?_); (exact HW.out.below (by first | exact Below.refl _ _ | exact (Below.refl _ _).drew | exact below_drewN _ _ | exact below_alloc _ _ | exact (below_alloc _ _).drew | exact below_dn (below_alloc _ _) _ | exact below_join (below_alloc _ _) (below_alloc _ _) | exact (below_join (below_alloc _ _) (below_alloc _ _)).drew | exact below_dn (below_join (below_alloc _ _) (below_alloc _ _)) _)); rintro e w5 ⟨⟨A5, c5, rfl, hr5⟩, hb5⟩; have HR5 := Lib.hid hr5; have HV5 := Lib.hid (newcell hb5); have HB5 := Lib.hid (below_join (below_join (Below.refl w.heap.size w) (by first | exact Below.refl _ _ | exact (Below.refl _ _).drew | exact below_drewN _ _ | exact below_alloc _ _ | exact (below_alloc _ _).drew | exact below_dn (below_alloc _ _) _ | exact below_join (below_alloc _ _) (below_alloc _ _) | exact (below_join (below_alloc _ _) (below_alloc _ _)).drew | exact below_dn (below_join (below_alloc _ _) (below_alloc _ _)) _)) hb5); clear hr5 hb5) | (go_at_call 86; (with_reducible refine (Concat3 _ _ ?_ ?_ ?_ [a] (innR R a b) [b] ?_ ?_ ?_ ?_ ?_).mono ?_); rotate_left 3; (first | exact heap_alloc_new _ _ | exact alloc_two' _ _ _); (exact row_one (keep_blk (by first | exact Below.refl _ _ | exact (Below.refl _ _).drew | exact below_drewN _ _ | exact below_alloc _ _ | exact (below_alloc _ _).drew | exact below_dn (below_alloc _ _) _ | exact below_join (below_alloc _ _) (below_alloc _ _) | exact (below_join (below_alloc _ _) (below_alloc _ _)).drew | exact below_dn (below_join (below_alloc _ _) (below_alloc _ _)) _) HV5.out)); (exact HR5.out.below (by first | exact Below.refl _ _ | exact (Below.refl _ _).drew | exact below_drewN _ _ | exact below_alloc _ _ | exact (below_alloc _ _).drew | exact below_dn (below_alloc _ _) _ | exact below_join (below_alloc _ _) (below_alloc _ _) | exact (below_join (below_alloc _ _) (below_alloc _ _)).drew | exact below_dn (below_join (below_alloc _ _) (below_alloc _ _)) _)); (exact row_one (alloc_two _ _ _)); (simp; omega); rintro e w9 ⟨⟨A9, c9, rfl, hown9⟩, hb9⟩; have HO9 := Lib.hid hown9; have HB9 := Lib.hid (below_join (below_join HB5.out (by first | exact Below.refl _ _ | exact (Below.refl _ _).drew | exact below_drewN _ _ | exact below_alloc _ _ | exact (below_alloc _ _).drew | exact below_dn (below_alloc _ _) _ | exact below_join (below_alloc _ _) (below_alloc _ _) | exact (below_join (below_alloc _ _) (below_alloc _ _)).drew | exact below_dn (below_join (below_alloc _ _) (below_alloc _ _)) _)) hb9); clear hown9 hb9))
    go_ret2
    rw [HE.out, HF.out]
    exact ⟨⟨A9, c9, by simp, RowT.of_own HO9.out⟩, HB9.out⟩
end Go.Proofs.Ytcbojlidfabgeaa
