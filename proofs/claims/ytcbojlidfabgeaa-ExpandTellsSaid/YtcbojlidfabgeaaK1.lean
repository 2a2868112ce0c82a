/- The statement ExpandTells, walked. Conditions: the data fit. -/
import Derived.Test.YtcbojlidfabgeaaJ3
import Derived.Test.YtcbojlidfabgeaaR3a
import Derived.Test.YtcbojlidfabgeaaR3b
namespace Go.Proofs.Ytcbojlidfabgeaa
open Go.RowKit
set_option linter.unusedVariables false
set_option linter.unusedSimpArgs false

theorem slice25_hi (A : Option Addr) (n cap h : Nat) (hh : h ≤ cap) : ∃ ao : Option Addr, (∀ g o, A = some ⟨g, o, none⟩ → ao = some ⟨g, o, none⟩) ∧ ∀ (W : World) (i : Int), i = (h : Int) →
    (Instr.slice 25 (.slice A n cap) none (some (.int .i64 i)) none).run Try.prog W = .ok (.slice ao h cap) W := by
  refine ⟨if cap = 0 then A else A.map (·.add 0), fun g o hA => by rw [hA]; simp [Addr.add], ?_⟩
  intro W i hi
  subst hi
  have h1 : (h : Int) ≤ (cap : Int) := by omega
  simp [go_sem, h1]
theorem own_spot {w : World} {base : Nat} {e : TypeId} {s n m c : Nat} {A : Option Addr} {xs : List Value} (h : w.ownsRow base e s (.slice A m c) n xs) : ∀ a, A = some a → a.spot = none := by
  intro a ha
  rcases h.2 with ⟨h0, _⟩ | ⟨g, cap, cur, h0, _⟩
  · injection h0 with h1; rw [h1] at ha; cases ha
  · injection h0 with h1; rw [h1] at ha; injection ha with ha; rw [← ha]
theorem Sl.hi4 {w : World} {A ao : Option Addr} {n c h : Nat} {l : List Stp} (hs : Sl w A n c 4 (stepCells l)) (hh : h ≤ n) (hao : ∀ g o, A = some ⟨g, o, none⟩ → ao = some ⟨g, o, none⟩) : Sl w ao h c 4 (stepCells (l.take h)) := by
  rw [← stepCells_take]
  have h1 := hs.take hh
  refine ⟨h1.len, h1.cap, h1.capm, ?_⟩
  rcases h1.cells with h0 | ⟨b, off, hA, hc⟩
  · exact .inl h0
  · exact .inr ⟨b, off, hao b off hA, hc⟩
set_option maxHeartbeats 3200000 in
set_option maxRecDepth 100000 in
theorem Tells_any (w : World) (n : Int) (A : Option Addr) (c : Nat) (es : List (Int × Int)) (As : Option Addr) (cs : Nat) (l : List Stp) (a b : Int) (h : Sl w A es.length c 2 (edgeCells es)) (hs : Sl w As l.length cs 4 (stepCells l)) (ha : InI a) (hb : InI b) :
    Calls Try.prog 3 #[.agg #[.int .i64 n, .slice A es.length c], .slice As l.length cs, .agg #[.int .i64 a, .int .i64 b]] w fun e w' => e = .returned (.bool true) ∧ Below w.heap.size w w' := by
  have hm := h.nm
  have hsm := hs.nm
  have hsc := hs.cap
  have hscm := hs.capm
  have H := Lib.hid h
  obtain ⟨k, hk⟩ : ∃ k, min l.length 60 = k := ⟨_, rfl⟩
  have hmin : min (l.length : Int) 60 = (k : Int) := by omega
  have hk0 : (0 : Int) ≤ (k : Int) := by omega
  obtain ⟨ao, hao, hrun⟩ := slice25_hi As l.length cs k (by omega)
  have hrun1 := fun W => hrun W _ rfl
  have hl2 := hs.hi4 (by omega : k ≤ l.length) hao
  have hk2 : (l.take k).length = k := by rw [List.length_take]; omega
  obtain ⟨l2, hl2e⟩ : ∃ l2, l.take k = l2 := ⟨_, rfl⟩
  rw [hl2e] at hl2 hk2
  have HS := Lib.hid hl2
  have HK := Lib.hid hk2
  have H60 := Lib.hid (show l2.take 60 = l2 from List.take_of_length_le (by omega))
  have hk60 : k ≤ 60 := by omega
  clear h hs hk hao hrun hl2 hl2e hk2
  go_enter Try.func3, Try.ntmps3
  go_wp2_with (first | (go_at_call 15; refine (shown_any _).mono ?_; rintro e w4 ⟨rfl, hb4⟩; obtain ⟨q0, q1⟩ := alloc2 w (Obj.cells #[.int .i64 n, .slice A es.length c] 24) (Obj.cells #[.int .i64 a, .int .i64 b] 26); have x0 := keep_blk hb4 q0; have x1 := keep_blk hb4 q1; obtain ⟨n0, n1, _, _⟩ := cells2 x0; have HX1 := Lib.hid x1; have HB4 := Lib.hid (below_join (below_join (below_alloc _ _) (below_alloc _ _)) hb4); clear hb4 q0 q1 x0 x1) | (go_at_call 16; refine (Of_any _ n 20 A c es (H.out.below HB4.out) (by omega)).mono ?_; rintro e w5 ⟨v, N, gs, rfl, ⟨A5, c5, rfl, ho5⟩, hr5, hN5, hl5, hb5⟩; have HO5 := Lib.hid (Sl.of_own' ho5); have HR5 := Lib.hid hr5; have HX5 := Lib.hid (keep_blk hb5 HX1.out); have HB5 := Lib.hid (below_join HB4.out hb5); clear ho5 hr5 hb5))
  have x6 := keep_blk (below_alloc w5 (Obj.cells #[.int .i64 N, .slice A5 gs.length c5] 28)) HX5.out
  have g6 := heap_alloc_new w5 (Obj.cells #[.int .i64 N, .slice A5 gs.length c5] 28)
  have hb6 := below_alloc w5 (Obj.cells #[.int .i64 N, .slice A5 gs.length c5] 28)
  obtain ⟨W6, hW6⟩ : ∃ W6, w5.alloc (Obj.cells #[.int .i64 N, .slice A5 gs.length c5] 28) = W6 := ⟨_, rfl⟩
  rw [hW6] at x6 g6 hb6 ⊢
  have HO6 := Lib.hid (HO5.out.below hb6)
  have HB6 := Lib.hid (below_join HB5.out hb6)
  obtain ⟨p0, p1, _, _⟩ := cells2 x6
  obtain ⟨g0, g1, _, _⟩ := cells2 g6
  have hgm := HO6.out.nm
  clear hW6 x6 g6 hb6
  obtain ⟨E, hE⟩ : ∃ E, edge11S N gs l2 a b = E := ⟨_, rfl⟩
  have HE := Lib.hid hE
  clear hE
  go_region_held3 (fun w' => w'.cell? ⟨w5.heap.size, 0, none⟩ = some (.int .i64 N) ∧ w'.cell? ⟨w5.heap.size, 1, none⟩ = some (.slice A5 gs.length c5) ∧ w'.cell? ⟨w.heap.size + 1, 0, none⟩ = some (.int .i64 a) ∧ w'.cell? ⟨w.heap.size + 1, 1, none⟩ = some (.int .i64 b)) (first | (refine ⟨?_, ?_, ?_, ?_⟩ <;> first | assumption | go_keep)) (first | (go_at_call 18; refine (show Calls Try.prog 18 #[.slice ao k cs] _ _ from HK.out ▸ ours_any _ ao cs l2 (by rw [HK.out]; exact (HS.out.below HB6.out).below (by first | exact Below.refl _ _ | exact (Below.refl _ _).drew | exact below_drewN _ _))).mono ?_; rintro e w7 ⟨v, rfl, ho7, hb7⟩; rw [H60.out] at ho7; obtain ⟨A7, c7, rfl, hs7⟩ := Sl.of_own ho7; have hb67 := (show Below W6.heap.size W6 w7 from (by first | exact hb7 | exact below_join (Below.refl _ _).drew hb7 | exact below_join (below_drewN _ _) hb7)); have k0 := cell_keep hb67 g0; have k1 := cell_keep hb67 g1; have k2 := cell_keep hb67 p0; have k3 := cell_keep hb67 p1; have HO7 := Lib.hid ho7; have HB7 := Lib.hid hb67; clear ho7 hb7 hb67 hs7) | (go_at_call 17; refine (Edge_any _ N A5 c5 gs A7 c7 l2 a b ((HO6.out.below HB7.out).below (by first | exact Below.refl _ _ | exact (Below.refl _ _).drew | exact below_drewN _ _)) ((Sl.of_own' HO7.out).below (by first | exact Below.refl _ _ | exact (Below.refl _ _).drew | exact below_drewN _ _)) (own_spot HO7.out) (by rw [HK.out]; omega) (by omega) HR5.out ha hb).mono ?_; rintro e w8 ⟨⟨A8, c8, rfl, hr8⟩, hb8⟩; rw [HE.out] at hr8; rw [HE.out]; have hb68 := below_join HB7.out (show Below w7.heap.size w7 w8 from (by first | exact hb8 | exact below_join (Below.refl _ _).drew hb8 | exact below_join (below_drewN _ _) hb8)); have y0 := cell_keep hb68 g0; have y1 := cell_keep hb68 g1; have y2 := cell_keep hb68 p0; have y3 := cell_keep hb68 p1; have HR8 := Lib.hid hr8; have HB8 := Lib.hid hb68; clear hr8 hb8 hb68))
  clear g0 g1 p0 p1 k0 k1 k2 k3
  have h11 := Edge11_any w8 N A5 c5 gs ao cs l2 a b (HO6.out.below HB8.out) (by rw [HK.out]; exact (HS.out.below HB6.out).below HB8.out) (fits_of HR5.out (by omega) (by rw [HK.out]; omega))
  rw [HK.out, HE.out] at h11
  have H11 := Lib.hid h11
  clear h11
  go_wp2_with (first | (go_at_call 19; refine H11.out.mono ?_; rintro e w9 ⟨⟨A9, c9, rfl, hs9⟩, hb9⟩; have HS9 := Lib.hid hs9; have HB9 := Lib.hid hb9; clear hs9 hb9) | (go_at_call 20; refine (Same_any w9 A8 A9 c8 c9 E E ((RowT.sl HR8.out).2.below HB9.out) HS9.out).mono ?_; rintro e w10 ⟨rfl, q, rfl⟩))
  go_ret
  exact ⟨by simp, below_dn (below_join (below_join HB6.out HB8.out) HB9.out) _⟩
end Go.Proofs.Ytcbojlidfabgeaa
