/- The reference's Go: a vertex that may goes. Conditions: at most 1000 vertices, at most two neighbours. -/
import Derived.Test.YtcbojlidfabgeaaR10b
namespace Go.Proofs.Ytcbojlidfabgeaa
open Go.RowKit
set_option linter.unusedVariables false
set_option linter.unusedSimpArgs false

theorem near_mem {N : Nat} {s : St} {v x : Nat} (h : x ∈ nearS N s v) : x < N ∧ s.inn x = true ∧ s.adj v x = true := by
  unfold nearS at h
  rw [List.mem_filter] at h
  simpa using h
theorem near_sorted (N : Nat) (s : St) (v : Nat) : (nearS N s v).Pairwise (· < ·) := by
  unfold nearS
  exact List.Pairwise.filter _ List.pairwise_lt_range
/-- A vertex is not in any more. -/
theorem Rest10.out {w : World} {base bp N : Nat} {s : St} {gi ci ga ca : Nat} {Aa : Option Addr} {vs : List Value} (h : Rest10 w base bp N s gi ci ga ca Aa vs) {x : Nat} (hx : x < N) :
    Rest10 (w.setCell ⟨gi, x, none⟩ (.bool false)) base bp N ⟨fun y => y != x && s.inn y, s.adj⟩ gi ci ga ca Aa vs := by
  have hN : 0 < N := by omega
  have n1 : bp ≠ gi := by intro e; exact own_block_ne h.inn h.hp (by decide) (by rw [e]; rfl)
  refine ⟨h.low, ?_, ?_, h.hA, fun _ => ?_, h.far, h.capa⟩
  · rw [heap_setCell_other _ _ _ _ n1]; exact h.hp
  · have := (h.inn.stored x (.bool false)).1
    rw [tab_set] at this
    rw [show (tab N fun y => Value.bool (y != x && s.inn y)) = tab N (fun j => if j = x then Value.bool false else Value.bool (s.inn j)) from tab_congr fun i _ => by
      by_cases hi : i = x
      · subst hi; simp
      · have : (i != x) = true := by simpa using hi
        rw [if_neg hi, this]; simp]
    exact this
  · have hA := h.adj hN
    obtain ⟨tl, ht⟩ := hA.outer
    refine ⟨hA.low, ⟨tl, ?_⟩, hA.lv, hA.lr, fun i v xs hv hx => own_setCell (hA.row i v xs hv hx) (h.far hN i v hv), hA.apart, hA.ne⟩
    rw [heap_setCell_other _ _ _ _ (by intro e; exact hA.far h.inn (by rw [show ga = gi from e]; rfl))]; exact ht
theorem Rest10.gi_lt {w : World} {base bp N : Nat} {s : St} {gi ci ga ca : Nat} {Aa : Option Addr} {vs : List Value} (h : Rest10 w base bp N s gi ci ga ca Aa vs) : base ≤ gi ∧ gi < w.heap.size := h.inn.lt gi rfl

def sets (w : World) (b : Nat) (l : List (Nat × Value)) : World := l.foldl (fun w p => w.setCell ⟨b, p.1, none⟩ p.2) w
theorem heap_setCell_any {w : World} {b i : Nat} {cs : Array Value} {t : TypeId} {u : Value} (h : w.heap[b]? = some (.cells cs t (0, 0))) : ∃ cs' : Array Value, (w.setCell ⟨b, i, none⟩ u).heap[b]? = some (.cells cs' t (0, 0)) :=
  ⟨_, heap_setCell_same w b i cs t u h⟩
theorem Rest10.aside {w : World} {base bp N : Nat} {s : St} {gi ci ga ca : Nat} {Aa : Option Addr} {vs : List Value} (h : Rest10 w base bp N s gi ci ga ca Aa vs) {b i : Nat} {u : Value} {cs : Array Value} {t : TypeId} {fr : Nat × Nat} (hb : w.heap[b]? = some (.cells cs t fr)) (h1 : t ≠ 4) (h2 : t ≠ 99) (h3 : t ≠ 159) :
    Rest10 (w.setCell ⟨b, i, none⟩ u) base bp N s gi ci ga ca Aa vs := by
  have tne : ∀ {g : Nat} {cs' : Array Value} {t' : TypeId} {fr' : Nat × Nat}, w.heap[g]? = some (.cells cs' t' fr') → t' ≠ t → g ≠ b := by
    intro g cs' t' fr' hg hne e
    subst e
    rw [hg] at hb
    injection hb with hb
    injection hb with _ e2
    exact hne e2
  refine ⟨h.low, ?_, own_setCell h.inn (own_block_ne h.inn hb (Ne.symm h1)), h.hA, fun hN => ?_, h.far, h.capa⟩
  · rw [heap_setCell_other _ _ _ _ (tne h.hp (Ne.symm h3))]; exact h.hp
  · have hA := h.adj hN
    obtain ⟨tl, ht⟩ := hA.outer
    refine ⟨hA.low, ⟨tl, ?_⟩, hA.lv, hA.lr, fun i v xs hv hx => own_setCell (hA.row i v xs hv hx) (own_block_ne (hA.row i v xs hv hx) hb (Ne.symm h1)), hA.apart, hA.ne⟩
    rw [heap_setCell_other _ _ _ _ (tne ht (Ne.symm h2))]; exact ht
theorem Rest10.sets {base bp N : Nat} {s : St} {gi ci ga ca : Nat} {Aa : Option Addr} {vs : List Value} {b : Nat} {t : TypeId} (h1 : t ≠ 4) (h2 : t ≠ 99) (h3 : t ≠ 159) :
    ∀ (l : List (Nat × Value)) (w : World), Rest10 w base bp N s gi ci ga ca Aa vs → (∃ cs : Array Value, w.heap[b]? = some (.cells cs t (0, 0))) → Rest10 (sets w b l) base bp N s gi ci ga ca Aa vs
  | [], w, h, _ => h
  | p :: l, w, h, ⟨cs, hb⟩ => Rest10.sets h1 h2 h3 l _ (h.aside hb h1 h2 h3) (heap_setCell_any hb)
theorem below_sets {B b : Nat} {w0 : World} (hB : B ≤ b) : ∀ (l : List (Nat × Value)) (w : World), Below B w0 w → Below B w0 (sets w b l)
  | [], w, h => h
  | p :: l, w, h => below_sets hB l _ (h.setCell hB _)

theorem block_ne {w : World} {g g' : Nat} {cs cs' : Array Value} {t t' : TypeId} {fr fr' : Nat × Nat} (h : w.heap[g]? = some (.cells cs t fr)) (h' : w.heap[g']? = some (.cells cs' t' fr')) (hne : t ≠ t') : g ≠ g' := by
  intro e
  subst e
  rw [h] at h'
  injection h' with h'
  injection h' with _ e2
  exact hne e2
theorem Rest10.row_block {w : World} {base bp N : Nat} {s : St} {gi ci ga ca : Nat} {Aa : Option Addr} {vs : List Value} (h : Rest10 w base bp N s gi ci ga ca Aa vs) {a gr cr : Nat} (ha : a < N) (hv : vs[a]? = some (.slice (some ⟨gr, 0, none⟩) N cr)) : ∃ cs : Array Value, w.heap[gr]? = some (.cells cs 4 (0, 0)) := by
  have hN : 0 < N := by omega
  have hx : (tab N fun a => tab N fun b => Value.bool (s.adj a b))[a]? = some (tab N fun b => Value.bool (s.adj a b)) := tab_get _ ha
  have hrow := (h.adj hN).row a _ _ hv hx
  rw [tab_length] at hrow
  obtain ⟨_, cur, hh, _⟩ := own_open hrow
  exact ⟨_, hh⟩
theorem Rest10.ga_block {w : World} {base bp N : Nat} {s : St} {gi ci ga ca : Nat} {Aa : Option Addr} {vs : List Value} (h : Rest10 w base bp N s gi ci ga ca Aa vs) (hN : 0 < N) : ∃ cs : Array Value, w.heap[ga]? = some (.cells cs 99 (0, 0)) := by
  obtain ⟨tl, ht⟩ := (h.adj hN).outer
  exact ⟨_, ht⟩

theorem goS_0 {N : Nat} {s : St} {v : Nat} (h : nearS N s v = []) : goS N s v = ⟨fun x => x != v && s.inn x, s.adj⟩ := by unfold goS; rw [h]
theorem goS_1 {N : Nat} {s : St} {v a : Nat} (h : nearS N s v = [a]) : goS N s v = ⟨fun x => x != v && s.inn x, s.adj⟩ := by unfold goS; rw [h]
theorem goS_2 {N : Nat} {s : St} {v a b : Nat} (h : nearS N s v = [a, b]) : goS N s v = ⟨fun x => x != v && s.inn x, fun x y => (x == a && y == b) || (x == b && y == a) || s.adj x y⟩ := by unfold goS; rw [h]

set_option maxHeartbeats 3200000 in
set_option maxRecDepth 100000 in
theorem Go10_any (w : World) (base bp N : Nat) (s : St) (gi ci ga ca : Nat) (Aa : Option Addr) (vs : List Value) (v : Nat) (hr : Rest10 w base bp N s gi ci ga ca Aa vs) (hv : v < N) (hN : N ≤ 1000) (hmay : (nearS N s v).length ≤ 2) (hbs : base ≤ w.heap.size) :
    Calls Try.prog 112 #[.pointer (some ⟨bp, 0, none⟩), .int .i64 v] w fun e w' => ∃ u, e = .returned u ∧ Rest10 w' base bp N (goS N s v) gi ci ga ca Aa vs ∧ Below base w w' := by
  have HR := Lib.hid hr
  have HA := Lib.hid (hr.hA (by omega))
  have hci1 := (Sl.of_own' hr.inn).cap
  have hci2 := (Sl.of_own' hr.inn).capm
  have hca1 := hr.capa.1
  have hca2 := hr.capa.2
  clear hr
  go_enter Try.func112, Try.ntmps112
  go_wp2_with fail
  refine (Near10_any _ base bp N s gi ci ga ca Aa vs v (HR.out.below (below_alloc _ _)) hv hN).mono ?_
  rintro e w1 ⟨u, rfl, hown, hb⟩
  have HB0 := Lib.hid hb
  have HB := Lib.hid (below_join (below_alloc w _) hb)
  have hrb := (hb.block w.heap.size (by simp)).trans (heap_alloc_new w _)
  have HRB := Lib.hid hrb
  have hw1 : w.heap.size < w1.heap.size := (Array.getElem?_eq_some_iff.1 hrb).1
  have HR1 := Lib.hid (HR.out.below HB.out)
  have HO := Lib.hid hown
  clear hown hb hrb HR
  obtain ⟨q0, q1, _, _⟩ := cells2 HR1.out.hp
  have r0 := HR1.out.in_cell hv
  have r1 := HR1.out.inn.frozenAt v
  obtain ⟨hgi1, hgi2⟩ := HR1.out.gi_lt
  have hbp := (Array.getElem?_eq_some_iff.1 HR1.out.hp).1
  obtain ⟨z0, z1, z2, z3⟩ := cells4 HRB.out
  have zf0 := frozen_of_row w1 w.heap.size 0 _ _ HRB.out
  have zf1 := frozen_of_row w1 w.heap.size 1 _ _ HRB.out
  have zf2 := frozen_of_row w1 w.heap.size 2 _ _ HRB.out
  have zf3 := frozen_of_row w1 w.heap.size 3 _ _ HRB.out
  have hgr : ¬ gi = w.heap.size := fun e => own_block_ne HR1.out.inn HRB.out (by decide) (by rw [← e]; rfl)
  have hnm := fun (x : Nat) => near_mem (N := N) (s := s) (v := v) (x := x)
  have hns := near_sorted N s v
  obtain ⟨L, hL⟩ : ∃ L, nearS N s v = L := ⟨_, rfl⟩
  rw [hL] at hmay hns HO
  simp only [hL] at hnm
  have HL := Lib.hid hL
  clear hL
  obtain ⟨Al, cl, rfl, hsl⟩ := Sl.of_own HO.out
  match L, hmay with
  | [], _ =>
    have hl1 : ((([] : List Nat).length : Int) == 1) = false := by decide
    go_wp2_with fail
    refine bodyPost_ret (v := .agg #[.int .i64 v, .int .i64 (-1), .int .i64 (-1), .bool false]) (by simp [results, Try.results112, go_sem, z0, z1, z2, z3, hgr, hw1]) rfl ?_
    refine ⟨_, rfl, ?_, ?_⟩
    · rw [goS_0 HL.out]
      have hset : ∃ cs : Array Value, (w1.setCell ⟨gi, v, none⟩ (.bool false)).heap[w.heap.size]? = some (.cells cs 94 (0, 0)) := ⟨_, (heap_setCell_other w1 ⟨gi, v, none⟩ w.heap.size _ (fun e => hgr e.symm)).trans HRB.out⟩
      exact (Rest10.sets (t := 94) (by decide) (by decide) (by decide) [(0, .int .i64 v), (1, .int .i64 (-1)), (2, .int .i64 (-1)), (3, .bool false)] _ (HR1.out.out hv) hset).below (below_alloc _ _)
    · exact (below_sets hbs [(0, .int .i64 v), (1, .int .i64 (-1)), (2, .int .i64 (-1)), (3, .bool false)] _ ((HB.out.mono hbs).setCell (p := ⟨gi, v, none⟩) hgi1 _)).alloc (by simp [sets]; omega) _
  | [a], _ =>
    have ha := hnm a (by simp)
    obtain ⟨bl, ol, hAl, hcl⟩ := hsl.at' (by simp)
    subst hAl
    have l0 := hcl 0 _ (ints_get (xs := nats [a]) (k := 0) (x := (a : Int)) rfl)
    have hcl1 := hsl.cap
    have hcl2 := hsl.capm
    have hbl := World.block_lt_of_cell? w1 _ l0
    have hbl2 : ¬ gi = bl := fun e => by
      have h1 : (Value.slice (some ⟨bl, ol, none⟩) [a].length cl).ownBlock ≠ some gi := by
        rcases own_type_ne HO.out HR1.out.inn (by decide) with h1 | h1
        · rw [h1]; simp
        · exact h1
      exact h1 (by rw [e]; rfl)
    simp only [Nat.add_zero, List.length_singleton] at l0 hcl1 hbl
    clear hcl hns hnm
    go_wp2_with fail
    refine bodyPost_ret (v := .agg #[.int .i64 v, .int .i64 a, .int .i64 (-1), .bool false]) (by simp [results, Try.results112, go_sem, z0, z1, z2, z3, hgr, hw1]) rfl ?_
    refine ⟨_, rfl, ?_, ?_⟩
    · rw [goS_1 HL.out]
      have hset : ∃ cs : Array Value, (w1.setCell ⟨gi, v, none⟩ (.bool false)).heap[w.heap.size]? = some (.cells cs 94 (0, 0)) := ⟨_, (heap_setCell_other w1 ⟨gi, v, none⟩ w.heap.size _ (fun e => hgr e.symm)).trans HRB.out⟩
      exact (Rest10.sets (t := 94) (by decide) (by decide) (by decide) [(0, .int .i64 v), (1, .int .i64 a), (2, .int .i64 (-1)), (3, .bool false)] _ (HR1.out.out hv) hset).below (below_alloc _ _)
    · exact (below_sets hbs [(0, .int .i64 v), (1, .int .i64 a), (2, .int .i64 (-1)), (3, .bool false)] _ ((HB.out.mono hbs).setCell (p := ⟨gi, v, none⟩) hgi1 _)).alloc (by simp [sets]; omega) _
  | [a, b], _ =>
    have ha := hnm a (by simp)
    have hb := hnm b (by simp)
    have hab : a < b := by simpa using hns
    obtain ⟨bl, ol, hAl, hcl⟩ := hsl.at' (by simp)
    subst hAl
    have l0 := hcl 0 _ (ints_get (xs := nats [a, b]) (k := 0) (x := (a : Int)) rfl)
    have l1 := hcl 1 _ (ints_get (xs := nats [a, b]) (k := 1) (x := (b : Int)) rfl)
    have hcl1 := hsl.cap
    have hcl2 := hsl.capm
    have hbl := World.block_lt_of_cell? w1 _ l0
    have hbl2 : ¬ gi = bl := fun e => by
      have h1 : (Value.slice (some ⟨bl, ol, none⟩) [a, b].length cl).ownBlock ≠ some gi := by
        rcases own_type_ne HO.out HR1.out.inn (by decide) with h1 | h1
        · rw [h1]; simp
        · exact h1
      exact h1 (by rw [e]; rfl)
    have hlen : [a, b].length = 2 := rfl
    rw [hlen] at hcl1
    simp only [Nat.add_zero] at l0 hbl
    have hAa := HA.out
    subst hAa
    clear hcl hns hnm
    go_upto_region 9 with (fail)
    have HR2 := Lib.hid ((HR1.out.out hv).below (below_alloc _ (Obj.cells #[.int .i64 v, .int .i64 a, .int .i64 b, .bool false] 94)))
    have hw1s : (w1.setCell ⟨gi, v, none⟩ (.bool false)).heap.size = w1.heap.size := by simp
    have HS2 := Lib.hid (show ((w1.setCell ⟨gi, v, none⟩ (.bool false)).alloc (Obj.cells #[.int .i64 v, .int .i64 a, .int .i64 b, .bool false] 94)).heap[w1.heap.size]? = some (.cells #[.int .i64 v, .int .i64 a, .int .i64 b, .bool false] 94 (0, 0)) from by rw [← hw1s]; exact heap_alloc_new _ _)
    have HZ2 := Lib.hid (show ((w1.setCell ⟨gi, v, none⟩ (.bool false)).alloc (Obj.cells #[.int .i64 v, .int .i64 a, .int .i64 b, .bool false] 94)).heap[w.heap.size]? = some (.cells #[.int .i64 0, .int .i64 0, .int .i64 0, .bool false] 94 (0, 0)) from by
      rw [Below.heap_alloc _ _ _ (by rw [hw1s]; exact hw1), heap_setCell_other w1 ⟨gi, v, none⟩ w.heap.size _ (fun e => hgr e.symm)]; exact HRB.out)
    have HL2 := Lib.hid (show Below base w ((w1.setCell ⟨gi, v, none⟩ (.bool false)).alloc (Obj.cells #[.int .i64 v, .int .i64 a, .int .i64 b, .bool false] 94)) from ((HB.out.mono hbs).setCell (p := ⟨gi, v, none⟩) hgi1 _).alloc (by simp; omega) _)
    have c0 : ((w1.setCell ⟨gi, v, none⟩ (.bool false)).alloc (Obj.cells #[.int .i64 v, .int .i64 a, .int .i64 b, .bool false] 94)).cell? ⟨bl, ol, none⟩ = some (.int .i64 a) := cell_keep (below_alloc _ _) (cell_set_far l0 (fun e => hbl2 e.symm))
    have c1 : ((w1.setCell ⟨gi, v, none⟩ (.bool false)).alloc (Obj.cells #[.int .i64 v, .int .i64 a, .int .i64 b, .bool false] 94)).cell? ⟨bl, ol + 1, none⟩ = some (.int .i64 b) := cell_keep (below_alloc _ _) (cell_set_far l1 (fun e => hbl2 e.symm))
    obtain ⟨blk3, hblk3⟩ : ∃ cs, w1.heap[bl]? = some (.cells cs 3 (0, 0)) := by
      obtain ⟨_, cur, hh, _⟩ := own_open HO.out
      exact ⟨_, hh⟩
    have HK2 := Lib.hid (show ((w1.setCell ⟨gi, v, none⟩ (.bool false)).alloc (Obj.cells #[.int .i64 v, .int .i64 a, .int .i64 b, .bool false] 94)).heap[bl]? = some (.cells blk3 3 (0, 0)) from by
      rw [Below.heap_alloc _ _ _ (by rw [hw1s]; exact hbl), heap_setCell_other w1 ⟨gi, v, none⟩ bl _ (fun e => hbl2 e.symm)]; exact hblk3)
    obtain ⟨w5, hw5⟩ : ∃ w5, (w1.setCell ⟨gi, v, none⟩ (.bool false)).alloc (Obj.cells #[.int .i64 v, .int .i64 a, .int .i64 b, .bool false] 94) = w5 := ⟨_, rfl⟩
    rw [hw5] at HR2 HS2 HZ2 HL2 c0 c1 HK2 ⊢
    clear hw5 hw1s q0 q1 r0 r1 z0 z1 z2 z3 zf0 zf1 zf2 zf3 l0 l1 hblk3 HO hsl HR1 HRB HB HB0
    obtain ⟨q0, q1, _, _⟩ := cells2 HR2.out.hp
    obtain ⟨s0, s1, s2, s3⟩ := cells4 HS2.out
    have sf := frozen_of_row w5 w1.heap.size 3 _ _ HS2.out
    have i1 : (0 : Int) ≤ (a : Int) := by omega
    have i2 : (a : Int) < (N : Int) := by omega
    have i3 : (0 : Int) ≤ (b : Int) := by omega
    have i4 : (b : Int) < (N : Int) := by omega
    have hsb := (Array.getElem?_eq_some_iff.1 HS2.out).1
    obtain ⟨gr, cr, hv1, r0, hcr1, hcr2, r1, rf, hgr1, hn1, hn2, hn3⟩ := HR2.out.adj_row (a := a) ha.1
    have r2 := r1 b hb.1
    obtain ⟨rcs, hrcs⟩ := HR2.out.row_block ha.1 hv1
    obtain ⟨gcs, hgcs⟩ := HR2.out.ga_block (by omega)
    have e0 := cell_set_far (i := 3) (u := Value.bool !s.adj a b) q1 (block_ne HR2.out.hp HS2.out (by decide))
    have e1 := cell_set_far (i := 3) (u := Value.bool !s.adj a b) c0 (block_ne HK2.out HS2.out (by decide))
    have e2 := cell_set_far (i := 3) (u := Value.bool !s.adj a b) c1 (block_ne HK2.out HS2.out (by decide))
    have e3 := cell_set_far (i := 3) (u := Value.bool !s.adj a b) r0 (block_ne hgcs HS2.out (by decide))
    have e4 := cell_set_far (i := 3) (u := Value.bool !s.adj a b) r2 (block_ne hrcs HS2.out (by decide))
    have HR3 := Lib.hid ((HR2.out.aside (i := 3) (u := Value.bool !s.adj a b) HS2.out (by decide) (by decide) (by decide)).below (Below.refl _ _).drew)
    have HS3 := Lib.hid (show ((w5.setCell ⟨w1.heap.size, 3, none⟩ (Value.bool !s.adj a b)).drew).heap[w1.heap.size]? = some (.cells #[.int .i64 v, .int .i64 a, .int .i64 b, Value.bool !s.adj a b] 94 (0, 0)) from heap_setCell (cs := [.int .i64 v, .int .i64 a, .int .i64 b, .bool false]) HS2.out _)
    have HZ3 := Lib.hid (show ((w5.setCell ⟨w1.heap.size, 3, none⟩ (Value.bool !s.adj a b)).drew).heap[w.heap.size]? = some (.cells #[.int .i64 0, .int .i64 0, .int .i64 0, .bool false] 94 (0, 0)) from (heap_setCell_other w5 ⟨w1.heap.size, 3, none⟩ w.heap.size _ (by simp; omega)).trans HZ2.out)
    have HK3 := Lib.hid (show ((w5.setCell ⟨w1.heap.size, 3, none⟩ (Value.bool !s.adj a b)).drew).heap[bl]? = some (.cells blk3 3 (0, 0)) from (heap_setCell_other w5 ⟨w1.heap.size, 3, none⟩ bl _ (block_ne HK2.out HS2.out (by decide))).trans HK2.out)
    have HL3 := Lib.hid ((HL2.out.setCell (p := ⟨w1.heap.size, 3, none⟩) (by simp; omega) (Value.bool !s.adj a b)).drew)
    clear hv1 r1 rf hrcs hgcs
    go_region_held3 (fun w' => w'.cell? ⟨bp, 1, none⟩ = some (.slice (some ⟨ga, 0, none⟩) N ca) ∧ w'.cell? ⟨bl, ol, none⟩ = some (.int .i64 a) ∧ w'.cell? ⟨bl, ol + 1, none⟩ = some (.int .i64 b) ∧ w'.cell? ⟨ga, a, none⟩ = some (.slice (some ⟨gr, 0, none⟩) N cr) ∧ w'.cell? ⟨gr, b, none⟩ = some (.bool (s.adj a b)))
      (go_keep) (fail)
    go_wp2_with fail
    obtain ⟨w6, hw6⟩ : ∃ w6, (w5.setCell ⟨w1.heap.size, 3, none⟩ (Value.bool !s.adj a b)).drew = w6 := ⟨_, rfl⟩
    have c2 : w6.cell? ⟨bl, ol, none⟩ = some (.int .i64 a) := by rw [← hw6]; exact e1
    have c3 : w6.cell? ⟨bl, ol + 1, none⟩ = some (.int .i64 b) := by rw [← hw6]; exact e2
    rw [hw6] at HR3 HS3 HZ3 HL3 HK3 ⊢
    clear hw6 e0 e1 e2 e3 e4 q0 q1 s0 s1 s2 s3 sf r0 r2 hgr1 hn1 hn2 hn3 hcr1 hcr2 c0 c1 HR2 HS2 HZ2 HL2 HK2 hsb
    obtain ⟨q0, q1, _, _⟩ := cells2 HR3.out.hp
    obtain ⟨gs, cs, hv1, r0, hcr1, hcr2, r1, rf, hgr1, hn1, hn2, hn3⟩ := HR3.out.adj_row (a := a) ha.1
    have r2 := r1 b hb.1
    have rf2 := rf b
    obtain ⟨rcs, hrcs⟩ := HR3.out.row_block ha.1 hv1
    have e0 := cell_set_far (i := b) (u := Value.bool true) q1 (block_ne HR3.out.hp hrcs (by decide))
    have e1 := cell_set_far (i := b) (u := Value.bool true) c2 (block_ne HK3.out hrcs (by decide))
    have e2 := cell_set_far (i := b) (u := Value.bool true) c3 (block_ne HK3.out hrcs (by decide))
    have e3 := cell_set_far (i := b) (u := Value.bool true) r0 (fun e => hn2 e.symm)
    have HR4 := Lib.hid ((HR3.out.set (b := b) ha.1 hv1).below (Below.refl _ _).drew)
    have HS4 := Lib.hid (show ((w6.setCell ⟨gs, b, none⟩ (Value.bool true)).drew).heap[w1.heap.size]? = some (.cells #[.int .i64 v, .int .i64 a, .int .i64 b, Value.bool !s.adj a b] 94 (0, 0)) from (heap_setCell_other w6 ⟨gs, b, none⟩ _ _ (block_ne HS3.out hrcs (by decide))).trans HS3.out)
    have HZ4 := Lib.hid (show ((w6.setCell ⟨gs, b, none⟩ (Value.bool true)).drew).heap[w.heap.size]? = some (.cells #[.int .i64 0, .int .i64 0, .int .i64 0, .bool false] 94 (0, 0)) from (heap_setCell_other w6 ⟨gs, b, none⟩ _ _ (block_ne HZ3.out hrcs (by decide))).trans HZ3.out)
    have HK4 := Lib.hid (show ((w6.setCell ⟨gs, b, none⟩ (Value.bool true)).drew).heap[bl]? = some (.cells blk3 3 (0, 0)) from (heap_setCell_other w6 ⟨gs, b, none⟩ bl _ (block_ne HK3.out hrcs (by decide))).trans HK3.out)
    have HL4 := Lib.hid ((HL3.out.setCell (p := ⟨gs, b, none⟩) hn3 (Value.bool true)).drew)
    clear hv1 r1 rf hrcs
    go_region_held3 (fun w' => w'.cell? ⟨bp, 1, none⟩ = some (.slice (some ⟨ga, 0, none⟩) N ca) ∧ w'.cell? ⟨bl, ol, none⟩ = some (.int .i64 a) ∧ w'.cell? ⟨bl, ol + 1, none⟩ = some (.int .i64 b) ∧ w'.cell? ⟨ga, a, none⟩ = some (.slice (some ⟨gs, 0, none⟩) N cs))
      (go_keep) (fail)
    go_wp2_with fail
    obtain ⟨w7, hw7⟩ : ∃ w7, (w6.setCell ⟨gs, b, none⟩ (Value.bool true)).drew = w7 := ⟨_, rfl⟩
    have c4 : w7.cell? ⟨bl, ol, none⟩ = some (.int .i64 a) := by rw [← hw7]; exact e1
    have c5 : w7.cell? ⟨bl, ol + 1, none⟩ = some (.int .i64 b) := by rw [← hw7]; exact e2
    rw [hw7] at HR4 HS4 HZ4 HL4 HK4 ⊢
    clear hw7 e0 e1 e2 e3 q0 q1 r0 r2 rf2 hgr1 hn1 hn2 hn3 hcr1 hcr2 c2 c3 HR3 HS3 HZ3 HL3 HK3
    obtain ⟨q0, q1, _, _⟩ := cells2 HR4.out.hp
    obtain ⟨gt, ct, hv1, r0, hcr1, hcr2, r1, rf, hgr1, hn1, hn2, hn3⟩ := HR4.out.adj_row (a := b) hb.1
    have r2 := r1 a ha.1
    have rf2 := rf a
    obtain ⟨rcs, hrcs⟩ := HR4.out.row_block hb.1 hv1
    have e0 := cell_set_far (i := a) (u := Value.bool true) q1 (block_ne HR4.out.hp hrcs (by decide))
    have e1 := cell_set_far (i := a) (u := Value.bool true) c4 (block_ne HK4.out hrcs (by decide))
    have e2 := cell_set_far (i := a) (u := Value.bool true) c5 (block_ne HK4.out hrcs (by decide))
    have e3 := cell_set_far (i := a) (u := Value.bool true) r0 (fun e => hn2 e.symm)
    have HR5 := Lib.hid ((HR4.out.set (b := a) hb.1 hv1).below (Below.refl _ _).drew)
    have HS5 := Lib.hid (show ((w7.setCell ⟨gt, a, none⟩ (Value.bool true)).drew).heap[w1.heap.size]? = some (.cells #[.int .i64 v, .int .i64 a, .int .i64 b, Value.bool !s.adj a b] 94 (0, 0)) from (heap_setCell_other w7 ⟨gt, a, none⟩ _ _ (block_ne HS4.out hrcs (by decide))).trans HS4.out)
    have HZ5 := Lib.hid (show ((w7.setCell ⟨gt, a, none⟩ (Value.bool true)).drew).heap[w.heap.size]? = some (.cells #[.int .i64 0, .int .i64 0, .int .i64 0, .bool false] 94 (0, 0)) from (heap_setCell_other w7 ⟨gt, a, none⟩ _ _ (block_ne HZ4.out hrcs (by decide))).trans HZ4.out)
    have HL5 := Lib.hid ((HL4.out.setCell (p := ⟨gt, a, none⟩) hn3 (Value.bool true)).drew)
    clear hv1 r1 rf hrcs
    go_region_held3 (fun w' => w'.cell? ⟨bp, 1, none⟩ = some (.slice (some ⟨ga, 0, none⟩) N ca) ∧ w'.cell? ⟨bl, ol, none⟩ = some (.int .i64 a) ∧ w'.cell? ⟨bl, ol + 1, none⟩ = some (.int .i64 b) ∧ w'.cell? ⟨ga, b, none⟩ = some (.slice (some ⟨gt, 0, none⟩) N ct))
      (go_keep) (fail)
    obtain ⟨w8, hw8⟩ : ∃ w8, (w7.setCell ⟨gt, a, none⟩ (Value.bool true)).drew = w8 := ⟨_, rfl⟩
    rw [hw8] at HR5 HS5 HZ5 HL5 ⊢
    clear hw8 e0 e1 e2 e3 q0 q1 r0 r2 rf2 hgr1 hn1 hn2 hn3 hcr1 hcr2 c4 c5 HR4 HS4 HZ4 HL4 HK4
    obtain ⟨s0, s1, s2, s3⟩ := cells4 HS5.out
    obtain ⟨z0, z1, z2, z3⟩ := cells4 HZ5.out
    have zf0 := frozen_of_row w8 w.heap.size 0 _ _ HZ5.out
    have zf1 := frozen_of_row w8 w.heap.size 1 _ _ HZ5.out
    have zf2 := frozen_of_row w8 w.heap.size 2 _ _ HZ5.out
    have zf3 := frozen_of_row w8 w.heap.size 3 _ _ HZ5.out
    go_wp2_with fail
    refine bodyPost_ret (v := .agg #[.int .i64 v, .int .i64 a, .int .i64 b, Value.bool !s.adj a b]) (by simp [results, Try.results112, go_sem, z0, z1, z2, z3]) rfl ?_
    refine ⟨⟨_, rfl⟩, ?_, ?_⟩
    · rw [goS_2 HL.out]
      have h2 := Rest10.sets (t := 94) (by decide) (by decide) (by decide) [(0, .int .i64 v), (1, .int .i64 a), (2, .int .i64 b), (3, Value.bool !s.adj a b)] _ HR5.out ⟨_, HZ5.out⟩
      rw [show (fun x y => (x == a && y == b) || (x == b && y == a) || s.adj x y) = (fun x y => (x == b && y == a) || ((x == a && y == b) || s.adj x y)) from by
        funext x y
        cases (x == a && y == b) <;> cases (x == b && y == a) <;> simp]
      exact h2
    · exact below_sets hbs [(0, .int .i64 v), (1, .int .i64 a), (2, .int .i64 b), (3, Value.bool !s.adj a b)] _ HL5.out
end Go.Proofs.Ytcbojlidfabgeaa
