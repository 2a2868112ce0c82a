/- The reference's Begin: all of a right graph. Conditions: at most 1000 vertices. -/
import Derived.Test.YtcbojlidfabgeaaB4
namespace Go.Proofs.Ytcbojlidfabgeaa
open Go.RowKit
set_option linter.unusedVariables false
set_option linter.unusedSimpArgs false
theorem info4 : (Try.prog.info? 4).map (fun i => (i.zero, i.size, i.bytes)) = some (some (.bool false), 1, 1) := by kernel_rfl
theorem info99 : (Try.prog.info? 99).map (fun i => (i.zero, i.size, i.bytes)) = some (some (.slice none 0 0), 1, 24) := by kernel_rfl

/-- What holds at the head of the first loop of Begin. -/
structure BegInv (w wr : World) (N k : Nat) (es : List (Int × Int)) (A : Option Addr) (c : Nat) (av : Value) (vs : List Value) : Prop where
  box : wr.heap[w.heap.size]? = some (.cells #[.int .i64 N, .slice A es.length c] 28 (0, 0))
  hp : wr.heap[w.heap.size + 1 + 1]? = some (.cells #[.slice (some ⟨w.heap.size + 1, 0, none⟩) N N, av] 159 (0, 0))
  inn : wr.ownsRow (w.heap.size + 1) 4 1 (.slice (some ⟨w.heap.size + 1, 0, none⟩) N N) N (tab N fun x => .bool (decide (x < k)))
  adj : Rows2v wr (w.heap.size + 1) 4 99 av k vs ((tab k fun _ => tab N fun _ => .bool false))
  far : ∀ (i : Nat) (v : Value), vs[i]? = some v → v.ownBlock ≠ some (w.heap.size + 1)
  low : Below w.heap.size w wr

theorem Rows2v.set {w : World} {base et ot : Nat} {av : Value} {n : Nat} {vs : List Value} {rows : List (List Value)} (h : Rows2v w base et ot av n vs rows) {b j : Nat} {u : Value} (h1 : av.ownBlock ≠ some b) (h2 : ∀ (i : Nat) (v : Value), vs[i]? = some v → v.ownBlock ≠ some b) : Rows2v (w.setCell ⟨b, j, none⟩ u) base et ot av n vs rows :=
  ⟨own_setCell h.own h1, h.lr, fun i v xs hv hx => own_setCell (h.row i v xs hv hx) (h2 i v hv), h.apart, h.ne⟩
theorem BegInv.store {w wr : World} {N k : Nat} {es : List (Int × Int)} {A : Option Addr} {c : Nat} {av : Value} {vs : List Value} (h : BegInv w wr N k es A c av vs) :
    (wr.setCell ⟨w.heap.size + 1, k, none⟩ (.bool true)).heap[w.heap.size]? = some (.cells #[.int .i64 N, .slice A es.length c] 28 (0, 0)) ∧
    (wr.setCell ⟨w.heap.size + 1, k, none⟩ (.bool true)).heap[w.heap.size + 1 + 1]? = some (.cells #[.slice (some ⟨w.heap.size + 1, 0, none⟩) N N, av] 159 (0, 0)) ∧
    (wr.setCell ⟨w.heap.size + 1, k, none⟩ (.bool true)).ownsRow (w.heap.size + 1) 4 1 (.slice (some ⟨w.heap.size + 1, 0, none⟩) N N) N (tab N fun x => .bool (decide (x < k + 1))) ∧
    Rows2v (wr.setCell ⟨w.heap.size + 1, k, none⟩ (.bool true)) (w.heap.size + 1) 4 99 av k vs ((tab k fun _ => tab N fun _ => .bool false)) ∧
    Below w.heap.size w (wr.setCell ⟨w.heap.size + 1, k, none⟩ (.bool true)) := by
  refine ⟨?_, ?_, ?_, ?_, h.low.setCell (by simp) _⟩
  · rw [heap_setCell_other _ _ _ _ (by simp)]; exact h.box
  · rw [heap_setCell_other _ _ _ _ (by simp)]; exact h.hp
  · have := (h.inn.stored k (.bool true)).1
    rw [tab_set] at this
    rw [show (tab N fun x => Value.bool (decide (x < k + 1))) = tab N (fun j => if j = k then Value.bool true else Value.bool (decide (j < k))) from tab_congr fun i hi => by
      by_cases hik : i = k
      · subst hik; simp
      · rw [if_neg hik]; congr 1; rw [Bool.eq_iff_iff]; simp; omega]
    exact this
  · refine h.adj.set ?_ h.far
    intro hk
    rcases own_type_ne h.adj.own h.inn (by decide) with h1 | h1
    · rw [h1] at hk; cases hk
    · exact h1 (by rw [hk]; rfl)

theorem tab_succ {α : Type} (N : Nat) (f : Nat → α) : tab (N + 1) f = tab N f ++ [f N] := by simp [tab, List.range_succ]
theorem BegInv.next {w w5 w1 : World} {N k : Nat} {es : List (Int × Int)} {A : Option Addr} {c : Nat} {av : Value} {vs : List Value} {gg cap : Nat}
    (b5 : w5.heap[w.heap.size]? = some (.cells #[.int .i64 N, .slice A es.length c] 28 (0, 0)))
    (h5 : w5.heap[w.heap.size + 1 + 1]? = some (.cells #[.slice (some ⟨w.heap.size + 1, 0, none⟩) N N, av] 159 (0, 0)))
    (i5 : w5.ownsRow (w.heap.size + 1) 4 1 (.slice (some ⟨w.heap.size + 1, 0, none⟩) N N) N (tab N fun x => .bool (decide (x < k + 1))))
    (a5 : Rows2v w5 (w.heap.size + 1) 4 99 av k vs ((tab k fun _ => tab N fun _ => .bool false)))
    (l5 : Below w.heap.size w w5) (f5 : ∀ (i : Nat) (v : Value), vs[i]? = some v → v.ownBlock ≠ some (w.heap.size + 1))
    (hg : (((w5.alloc (.cells (madeCells #[.bool false] N) 4)).alloc (.cells #[.slice (some ⟨w5.heap.size, 0, none⟩) N N] 99)).drew).grownBy w1 av.ownBlock)
    (ho : w1.ownsRow (w.heap.size + 1) 99 1 (.slice (some ⟨gg, 0, none⟩) (k + 1) cap) (k + 1) (vs ++ [.slice (some ⟨w5.heap.size, 0, none⟩) N N])) (hN : N ≤ 1000) :
    BegInv w (w1.setCell ⟨w.heap.size + 1 + 1, 1, none⟩ (.slice (some ⟨gg, 0, none⟩) (k + 1) cap)) N (k + 1) es A c (.slice (some ⟨gg, 0, none⟩) (k + 1) cap) (vs ++ [.slice (some ⟨w5.heap.size, 0, none⟩) N N]) := by
  have hz5 := (Array.getElem?_eq_some_iff.1 h5).1
  have hb : Below w5.heap.size w5 (((w5.alloc (.cells (madeCells #[.bool false] N) 4)).alloc (.cells #[.slice (some ⟨w5.heap.size, 0, none⟩) N N] 99)).drew) := (below_join (below_alloc _ _) (below_alloc _ _)).drew
  have n1 : av.ownBlock ≠ some w.heap.size := own_block_ne a5.own b5 (by decide)
  have n2 : av.ownBlock ≠ some (w.heap.size + 1 + 1) := own_block_ne a5.own h5 (by decide)
  have box1 := heap_keep hg hb b5 n1
  have hp1 := heap_keep hg hb h5 n2
  have inn1 := own_keep hg hb i5 (own_type_ne i5 a5.own (by decide))
  have newrow : (((w5.alloc (.cells (madeCells #[.bool false] N) 4)).alloc (.cells #[.slice (some ⟨w5.heap.size, 0, none⟩) N N] 99)).drew).ownsRow w5.heap.size 4 1 (.slice (some ⟨w5.heap.size, 0, none⟩) N N) (tab N fun _ => Value.bool false).length (tab N fun _ => .bool false) := by
    rw [tab_length]
    refine ((own_mk (cur := tab N fun _ => .bool false) ?_ (Nat.le_refl _) (Nat.le_refl _) (by unfold maxLen; omega) (by simp) (by rw [List.take_of_length_le (by simp)])).alloc _).drew
    rw [heap_alloc_new]
    congr 2
    rw [← Array.toList_inj, toList_madeCells_one]
    apply List.ext_getElem?
    intro i
    by_cases hi : i < N
    · rw [tab_get _ hi]; simp [hi]
    · rw [List.getElem?_eq_none (by simp; omega), List.getElem?_eq_none (by simp; omega)]
  have adj1 := a5.snoc hb hg ho newrow (by omega)
  refine ⟨?_, ?_, ?_, ?_, ?_, ?_⟩
  · rw [heap_setCell_other _ _ _ _ (by simp; omega)]; exact box1
  · exact heap_setCell (cs := [.slice (some ⟨w.heap.size + 1, 0, none⟩) N N, av]) hp1 _
  · exact own_setCell inn1 (by simp [Value.ownBlock])
  · rw [tab_succ]
    refine adj1.set (own_block_ne ho hp1 (by decide)) ?_
    intro i v hv
    obtain ⟨ys, hy⟩ : ∃ ys, ((tab k fun _ => tab N fun _ => Value.bool false) ++ [tab N fun _ => Value.bool false])[i]? = some ys := ⟨_, List.getElem?_eq_getElem (by
      have h1 := (List.getElem?_eq_some_iff.1 hv).1
      have h2 := a5.lv
      simp at h1 ⊢; omega)⟩
    exact own_block_ne (adj1.row i v ys hv hy) hp1 (by decide)
  · intro i v hv
    by_cases hi : i < vs.length
    · rw [List.getElem?_append_left hi] at hv; exact f5 i v hv
    · rw [List.getElem?_append_right (by omega)] at hv
      have h1 := (List.getElem?_eq_some_iff.1 hv).1
      simp at h1
      have : i - vs.length = 0 := by omega
      rw [this] at hv
      simp at hv
      subst hv
      simp [Value.ownBlock]; omega
  · exact (below_keep l5 (by omega) hg hb (fun r hr => by have := a5.own.lt r hr; omega)).setCell (by simp; omega) _

theorem Rest10.adj_row {w : World} {base bp N : Nat} {s : St} {gi ci ga ca : Nat} {Aa : Option Addr} {vs : List Value} (h : Rest10 w base bp N s gi ci ga ca Aa vs) {a : Nat} (ha : a < N) :
    ∃ gr cr, vs[a]? = some (.slice (some ⟨gr, 0, none⟩) N cr) ∧ w.cell? ⟨ga, a, none⟩ = some (.slice (some ⟨gr, 0, none⟩) N cr) ∧ N ≤ cr ∧ cr ≤ 9223372036854775807 ∧ (∀ b, b < N → w.cell? ⟨gr, b, none⟩ = some (.bool (s.adj a b))) ∧ (∀ b, w.frozen? ⟨gr, b, none⟩ = false) ∧ gr < w.heap.size ∧ gr ≠ bp ∧ gr ≠ ga ∧ base ≤ gr := by
  have hN : 0 < N := by omega
  obtain ⟨v, xs, hv, hx, hown⟩ := (h.adj hN).get ha
  obtain ⟨_, rfl⟩ := tab_get_inv hx
  rw [tab_length] at hown
  obtain ⟨A, c, rfl, hs⟩ := Sl.of_own hown
  rcases hown.2 with ⟨_, h0⟩ | ⟨g, cap, cur, hv', hg, hh, h2, h3, _⟩
  · omega
  · injection hv' with h1 h2' h3'
    subst h1; subst h3'
    refine ⟨g, c, hv, (h.adj hN).cell hv, hs.cap, hs.capm, fun b hb => ?_, fun b => hown.frozenAt b, (Array.getElem?_eq_some_iff.1 hh).1, ?_, ?_, hg⟩
    · rw [hown.cellAt b (by omega)]; exact tab_get _ hb
    · intro e; exact own_block_ne hown h.hp (by decide) (by rw [← e]; rfl)
    · intro e; exact (h.adj hN).far hown (by rw [← e]; rfl)
theorem Rest10.set {w : World} {base bp N : Nat} {s : St} {gi ci ga ca : Nat} {Aa : Option Addr} {vs : List Value} (h : Rest10 w base bp N s gi ci ga ca Aa vs) {a b gr cr : Nat} (ha : a < N) (hv : vs[a]? = some (.slice (some ⟨gr, 0, none⟩) N cr)) :
    Rest10 (w.setCell ⟨gr, b, none⟩ (.bool true)) base bp N ⟨s.inn, fun x y => (x == a && y == b) || s.adj x y⟩ gi ci ga ca Aa vs := by
  have hN : 0 < N := by omega
  have hA := h.adj hN
  have hx : (tab N fun a => tab N fun b => Value.bool (s.adj a b))[a]? = some (tab N fun b => Value.bool (s.adj a b)) := tab_get _ ha
  have hrow := hA.row a _ _ hv hx
  have n1 : bp ≠ gr := by intro e; exact own_block_ne hrow h.hp (by decide) (by rw [e]; rfl)
  have n2 : (Value.slice (some ⟨gi, 0, none⟩) N ci).ownBlock ≠ some gr := by
    intro e
    have : gi = gr := by simpa [Value.ownBlock] using e
    exact h.far hN a _ hv (by rw [this]; rfl)
  refine ⟨h.low, ?_, own_setCell h.inn n2, h.hA, fun _ => ?_, h.far, h.capa⟩
  · rw [heap_setCell_other _ _ _ _ n1]; exact h.hp
  · have := hA.poke hv hx b (.bool true)
    rw [tab_set, tab_set] at this
    rw [show (tab N fun x => tab N fun y => Value.bool ((x == a && y == b) || s.adj x y)) = tab N (fun j => if j = a then tab N (fun y => if y = b then Value.bool true else Value.bool (s.adj a y)) else tab N fun y => Value.bool (s.adj j y)) from tab_congr fun i _ => by
      by_cases hi : i = a
      · subst hi
        rw [if_pos rfl]
        exact tab_congr fun j _ => by
          by_cases hj : j = b
          · subst hj; simp
          · have : (j == b) = false := by simpa using hj
            rw [if_neg hj, this]; simp
      · have : (i == a) = false := by simpa using hi
        rw [if_neg hi, this]; simp]
    exact this

theorem right_okAt {N : Int} {es : List (Int × Int)} (h : rightB N es = true) {k : Nat} {e : Int × Int} (he : es[k]? = some e) : okAt N es k = true := by
  unfold rightB at h
  simp only [Bool.and_eq_true] at h
  exact (List.all_eq_true.1 h.2) k (by simpa using (List.getElem?_eq_some_iff.1 he).1)
theorem right_range {N : Int} {es : List (Int × Int)} (h : rightB N es = true) {k : Nat} {x y : Int} (he : es[k]? = some (x, y)) : 0 ≤ x ∧ x < y ∧ y < N := by
  have h1 := right_okAt h he
  unfold okAt at h1
  rw [he] at h1
  simp only [Bool.and_eq_true, okEdge, decide_eq_true_eq] at h1
  exact ⟨h1.1.1.1, h1.1.2, h1.1.1.2⟩
theorem begin_step {N j : Nat} {es : List (Int × Int)} {p q : Nat} (he : es[j]? = some ((p : Int), (q : Int))) : beginK N (j + 1) es = ⟨(beginK N j es).inn, fun x y => (x == q && y == p) || ((x == p && y == q) || (beginK N j es).adj x y)⟩ := by
  unfold beginK
  congr 1
  funext x y
  rw [Bool.eq_iff_iff]
  simp only [decide_eq_true_eq, take_both he, Bool.or_eq_true, Bool.and_eq_true, beq_iff_eq]
  constructor
  · rintro (h | h | h)
    · exact .inr (.inr h)
    · exact .inr (.inl (by omega))
    · exact .inl (by omega)
  · rintro (h | h | h)
    · exact .inr (.inr (by omega))
    · exact .inr (.inl (by omega))
    · exact .inl h

set_option maxHeartbeats 3200000 in
set_option maxRecDepth 100000 in
theorem Begin10_any (w : World) (N : Nat) (A : Option Addr) (c : Nat) (es : List (Int × Int)) (h : Sl w A es.length c 2 (edgeCells es)) (hN : N ≤ 1000) (hright : rightB N es = true) :
    Calls Try.prog 108 #[.agg #[.int .i64 N, .slice A es.length c]] w fun e w' => ∃ bp gi ci ga ca Aa vs, e = .returned (.pointer (some ⟨bp, 0, none⟩)) ∧ Rest10 w' w.heap.size bp N (beginS N es) gi ci ga ca Aa vs ∧ Below w.heap.size w w' := by
  have hm := h.nm
  have H := Lib.hid h
  have HRT := Lib.hid hright
  clear h hright
  have hmk := run_make_row' (P := Try.prog) 99 4 (.bool false) 1 Try.underlying99 info4 rfl .i64 .i64 N (by omega) (by omega)
  obtain ⟨i0, hi, hz0, hz1, hz2⟩ := info_parts info99
  go_enter Try.func108, Try.ntmps108
  go_wp2_with fail
  go_loopw [4] (fun i wr => ∃ (k : Nat) (av : Value) (vs : List Value), i = .int .i64 k ∧ k ≤ N ∧ Hid (BegInv w wr N k es A c av vs)) (fun i _ => N - (intOf i).toNat)
  case atStart =>
    refine ⟨0, .slice none 0 0, [], rfl, Nat.zero_le _, ?_⟩
    have hz1 : ((w.alloc (Obj.cells #[.int .i64 N, .slice A es.length c] 28)).alloc (Obj.cells (madeCells #[.bool false] N) 4)).heap.size = w.heap.size + 1 + 1 := by simp
    refine ⟨?_, ?_, ?_, Rows2v.start _ _ _ _ (by decide), fun i v h => by simp at h, ?_⟩
    · rw [Below.heap_alloc _ _ _ (by simp; omega), Below.heap_alloc _ _ _ (by simp), heap_alloc_new]
    · rw [← hz1, heap_alloc_new]
    · refine World.ownsRow.alloc (own_mk (cur := tab N fun _ => .bool false) ?_ (Nat.le_refl _) (Nat.le_refl _) (by unfold maxLen; omega) (by simp) (by rw [List.take_of_length_le (by simp)]; exact tab_congr fun i _ => by simp)) _
      have := heap_alloc_new (w.alloc (Obj.cells #[.int .i64 N, .slice A es.length c] 28)) (Obj.cells (madeCells #[.bool false] N) 4)
      rw [World.size_alloc] at this
      rw [this]
      congr 2
      rw [← Array.toList_inj, toList_madeCells_one]
      apply List.ext_getElem?
      intro i
      by_cases hi : i < N
      · rw [tab_get _ hi]; simp [hi]
      · rw [List.getElem?_eq_none (by simp; omega), List.getElem?_eq_none (by simp; omega)]
    · exact below_join (below_join (below_alloc _ _) (below_alloc _ _)) (below_alloc _ _)
  case round =>
    obtain ⟨k, av, vs, rfl, hk, HI⟩ := hrel
    obtain ⟨p0, p1, _, _⟩ := cells2 HI.out.box
    obtain ⟨q0, q1, q2, q3⟩ := cells2 HI.out.hp
    by_cases hlt : k < N
    · have r0 : wr.cell? ⟨w.heap.size + 1, k, none⟩ = some (.bool (decide (k < k))) := by rw [HI.out.inn.cellAt k (by omega)]; exact tab_get _ hlt
      have r1 := HI.out.inn.frozenAt k
      go_upto_region 6 with (fail)
      obtain ⟨b5, h5, i5, a5, l5⟩ := HI.out.store
      have far5 := HI.out.far
      have hav : av.ownBlock ≠ some (w.heap.size + 1 + 1) := own_block_ne a5.own h5 (by decide)
      have HAV := Lib.hid hav
      obtain ⟨w5, hw5⟩ : ∃ w5, wr.setCell ⟨w.heap.size + 1, k, none⟩ (.bool true) = w5 := ⟨_, rfl⟩
      rw [hw5] at b5 h5 i5 a5 l5 ⊢
      have HB5 := Lib.hid b5
      have HH5 := Lib.hid h5
      have HI5 := Lib.hid i5
      have HA5 := Lib.hid a5
      have HL5 := Lib.hid l5
      have HF5 := Lib.hid far5
      clear hw5 p0 p1 q0 q1 q2 q3 r0 r1 HI
      obtain ⟨p0, p1, _, _⟩ := cells2 b5
      obtain ⟨q0, q1, q2, q3⟩ := cells2 h5
      have hz5 := (Array.getElem?_eq_some_iff.1 h5).1
      have c1 : ∀ o1 o2 : Obj, ((w5.alloc o1).alloc o2).cell? ⟨w.heap.size + 1 + 1, 1, none⟩ = some av := fun o1 o2 => cell_keep (below_join (below_alloc _ _) (below_alloc _ _)) q1
      have c2 : ∀ o1 : Obj, (w5.alloc o1).cell? ⟨w.heap.size + 1 + 1, 1, none⟩ = some av := fun o1 => cell_keep (below_alloc _ _) q1
      clear b5 h5 i5 a5 l5 far5 hav
      go_region_law (first | (refine step_append_lies _ (by rfl) _ _ _ (by rfl) (w.heap.size + 1) 99 i0 _ 1 24 Try.underlying157 hi hz0 hz1 hz2 rfl (by omega) av k vs (by rfl) (((HA5.out.own.alloc _).alloc _).drew) ⟨w5.heap.size + 1, 0, none⟩ 1 1 [.slice (some ⟨w5.heap.size, 0, none⟩) N N] (by rfl) (by rfl) (World.news_of_block (cs := #[.slice (some ⟨w5.heap.size, 0, none⟩) N N]) (t := 99) (fr := (0, 0)) (by have := heap_alloc_new (w5.alloc (Obj.cells (madeCells #[.bool false] N) 4)) (Obj.cells #[.slice (some ⟨w5.heap.size, 0, none⟩) N N] 99); rwa [World.size_alloc] at this)) (by simp [Value.oneCell']) (by omega) (by unfold maxLen; omega) (by omega) (by simp; omega) (w5.heap.size + 1 + 1) (by simp) ?_; intro gg cap w1 hown1 hgrow hat hlt'; have hk1 := heap_keep hgrow ((below_join (below_alloc _ _) (below_alloc _ _)).drew) HH5.out HAV.out; obtain ⟨s0, s1, s2, s3⟩ := cells2 hk1; have HK1 := Lib.hid hk1; have HO1 := Lib.hid hown1; have HGR := Lib.hid hgrow; clear hk1 hown1 hgrow hat hlt'))
      all_goals go_wp2
      all_goals go_roundw
      all_goals first
        | (case measure => simp [intOf]; omega)
        | skip
      all_goals exact ⟨k + 1, _, _, by go_num, by omega, BegInv.next HB5.out HH5.out HI5.out HA5.out HL5.out HF5.out HGR.out HO1.out hN⟩
    · obtain rfl : k = N := by omega
      obtain ⟨Aa, ca, hav, hsl⟩ := Sl.of_own HI.out.adj.own
      subst hav
      obtain ⟨ga, hga⟩ : ∃ ga, 0 < k → Aa = some ⟨ga, 0, none⟩ := by
        rcases HI.out.adj.own.2 with ⟨h1, h2⟩ | ⟨g, cap, cur, h1, _⟩
        · exact ⟨0, fun h => by omega⟩
        · injection h1 with h1; exact ⟨g, fun _ => h1⟩
      have HR0 := Lib.hid (show Rest10 wr (w.heap.size + 1) (w.heap.size + 1 + 1) k (beginK k 0 es) (w.heap.size + 1) k ga ca Aa vs from
        ⟨by omega, HI.out.hp, HI.out.inn, hga, fun hk => by
          have h1 := HI.out.adj
          rw [hga hk] at h1
          have h2 := h1.block
          rw [show (tab k fun a => tab k fun b => Value.bool ((beginK k 0 es).adj a b)) = (tab k fun _ => tab k fun _ => Value.bool false) from tab_congr fun a _ => tab_congr fun b _ => by simp [beginK, both]]
          exact h2, fun _ => HI.out.far, ⟨hsl.cap, hsl.capm⟩⟩)
      have HBOX := Lib.hid HI.out.box
      have HLOW := Lib.hid HI.out.low
      clear hsl hlt hk q0 q1 q2 q3 HI
      go_wp2_with fail
      clear p0 p1
      go_loopw [5] (fun i wq => ∃ j : Nat, i = .int .i64 j ∧ j ≤ es.length ∧ Hid (Rest10 wq (w.heap.size + 1) (w.heap.size + 1 + 1) k (beginK k j es) (w.heap.size + 1) k ga ca Aa vs) ∧ Hid (wq.heap[w.heap.size]? = some (.cells #[.int .i64 k, .slice A es.length c] 28 (0, 0))) ∧ Hid (Below w.heap.size w wq)) (fun i _ => es.length - (intOf i).toNat)
      case atStart => exact ⟨0, rfl, Nat.zero_le _, HR0.out, HBOX.out, HLOW.out⟩
      case round =>
        clear HR0 HBOX HLOW
        obtain ⟨j, rfl, hj, HR, HBOX, HLOW⟩ := hrel
        obtain ⟨p0, p1, _, _⟩ := cells2 HBOX.out
        obtain ⟨q0, q1, _, _⟩ := cells2 HR.out.hp
        have hwz := HLOW.out.size
        have hbz := (Array.getElem?_eq_some_iff.1 HBOX.out).1
        by_cases hlt : j < es.length
        · obtain ⟨be, oe, hAe, hce⟩ := H.out.at' (by omega)
          clear H
          subst hAe
          obtain ⟨⟨x, y⟩, he⟩ : ∃ e, es[j]? = some e := ⟨_, List.getElem?_eq_getElem hlt⟩
          have d0 := cell_keep HLOW.out (hce _ _ (edgeCells_get he).1)
          have d1 := cell_keep HLOW.out (hce _ _ (edgeCells_get he).2)
          have hbe : be < w.heap.size := World.block_lt_of_cell? w _ (hce _ _ (edgeCells_get he).1)
          simp only [← Nat.add_assoc] at d0 d1
          have hxy := right_range HRT.out he
          obtain ⟨p, rfl⟩ : ∃ p : Nat, x = p := ⟨x.toNat, by omega⟩
          obtain ⟨q, rfl⟩ : ∃ q : Nat, y = q := ⟨y.toNat, by omega⟩
          have HE := Lib.hid he
          clear hce he
          have hAa := hga (by omega)
          subst hAa
          obtain ⟨gr, cr, hv, r0, hcr1, hcr2, r1, rf, hgr, hn1, hn2, hn3⟩ := HR.out.adj_row (a := p) (by omega)
          have r2 := r1 q (by omega)
          have rf2 := rf q
          have HV := Lib.hid hv
          have hca := HR.out.capa
          have i1 : (0 : Int) ≤ (p : Int) := by omega
          have i2 : (p : Int) < (k : Int) := by omega
          have i3 : (0 : Int) ≤ (q : Int) := by omega
          have i4 : (q : Int) < (k : Int) := by omega
          have m1 : ¬ w.heap.size + 1 + 1 = gr := by omega
          have m2 : ¬ w.heap.size = gr := by omega
          have m3 : ¬ be = gr := by omega
          have m4 : ¬ ga = gr := by omega
          clear hv r1 rf
          go_wp2_with fail
          have c1 : (wr.setCell ⟨gr, q, none⟩ (.bool true)).cell? ⟨w.heap.size, 1, none⟩ = some (.slice (some ⟨be, oe, none⟩) es.length c) := cell_set_far p1 m2
          have c2 : (wr.setCell ⟨gr, q, none⟩ (.bool true)).cell? ⟨be, oe + j * 2, none⟩ = some (.int .i64 p) := cell_set_far d0 m3
          have c3 : (wr.setCell ⟨gr, q, none⟩ (.bool true)).cell? ⟨be, oe + j * 2 + 1, none⟩ = some (.int .i64 q) := cell_set_far d1 m3
          go_region_held3 (fun w' => w'.cell? ⟨w.heap.size + 1 + 1, 1, none⟩ = some (.slice (some ⟨ga, 0, none⟩) k ca) ∧ w'.cell? ⟨w.heap.size, 1, none⟩ = some (.slice (some ⟨be, oe, none⟩) es.length c) ∧ w'.cell? ⟨be, oe + j * 2, none⟩ = some (.int .i64 p) ∧ w'.cell? ⟨be, oe + j * 2 + 1, none⟩ = some (.int .i64 q) ∧ w'.cell? ⟨ga, p, none⟩ = some (.slice (some ⟨gr, 0, none⟩) k cr))
            (go_keep) (fail)
          go_wp2_with fail
          have HR1 := Lib.hid ((HR.out.set (b := q) (by omega) HV.out).below (Below.refl _ _).drew)
          have HBOX1 := Lib.hid (show ((wr.setCell ⟨gr, q, none⟩ (.bool true)).drew).heap[w.heap.size]? = some (.cells #[.int .i64 k, .slice (some ⟨be, oe, none⟩) es.length c] 28 (0, 0)) from (heap_setCell_other wr ⟨gr, q, none⟩ _ _ m2).trans HBOX.out)
          have HLOW1 := Lib.hid ((HLOW.out.setCell (p := ⟨gr, q, none⟩) (by simp; omega) (.bool true)).drew)
          obtain ⟨w5, hw5⟩ : ∃ w5, (wr.setCell ⟨gr, q, none⟩ (.bool true)).drew = w5 := ⟨_, rfl⟩
          rw [hw5] at HR1 HBOX1 HLOW1 ⊢
          have d0' : w5.cell? ⟨be, oe + j * 2, none⟩ = some (.int .i64 p) := by rw [← hw5]; exact c2
          have d1' : w5.cell? ⟨be, oe + j * 2 + 1, none⟩ = some (.int .i64 q) := by rw [← hw5]; exact c3
          clear hw5 c1 c2 c3 d0 d1 p0 p1 q0 q1 r0 r2 rf2 HV hn1 hn2 hn3 hgr m1 m2 m3 m4 hcr1 hcr2
          obtain ⟨p0, p1, _, _⟩ := cells2 HBOX1.out
          obtain ⟨q0, q1, _, _⟩ := cells2 HR1.out.hp
          obtain ⟨gs, cs, hv, r0, hcr1, hcr2, r1, rf, hgr, hn1, hn2, hn3⟩ := HR1.out.adj_row (a := q) (by omega)
          have r2 := r1 p (by omega)
          have rf2 := rf p
          have HV := Lib.hid hv
          clear hv r1 rf
          have m1 : ¬ w.heap.size + 1 + 1 = gs := by omega
          have m2 : ¬ w.heap.size = gs := by omega
          have m3 : ¬ be = gs := by omega
          have m4 : ¬ ga = gs := by omega
          have c1 : (w5.setCell ⟨gs, p, none⟩ (.bool true)).cell? ⟨w.heap.size, 1, none⟩ = some (.slice (some ⟨be, oe, none⟩) es.length c) := cell_set_far p1 m2
          have c2 : (w5.setCell ⟨gs, p, none⟩ (.bool true)).cell? ⟨be, oe + j * 2, none⟩ = some (.int .i64 p) := cell_set_far d0' m3
          have c3 : (w5.setCell ⟨gs, p, none⟩ (.bool true)).cell? ⟨be, oe + j * 2 + 1, none⟩ = some (.int .i64 q) := cell_set_far d1' m3
          go_region_held3 (fun w' => w'.cell? ⟨w.heap.size + 1 + 1, 1, none⟩ = some (.slice (some ⟨ga, 0, none⟩) k ca) ∧ w'.cell? ⟨w.heap.size, 1, none⟩ = some (.slice (some ⟨be, oe, none⟩) es.length c) ∧ w'.cell? ⟨be, oe + j * 2, none⟩ = some (.int .i64 p) ∧ w'.cell? ⟨be, oe + j * 2 + 1, none⟩ = some (.int .i64 q) ∧ w'.cell? ⟨ga, q, none⟩ = some (.slice (some ⟨gs, 0, none⟩) k cs))
            (go_keep) (fail)
          go_wp2
          go_roundw
          case rel =>
            refine ⟨j + 1, by go_num, by omega, ?_, (heap_setCell_other w5 ⟨gs, p, none⟩ _ _ m2).trans HBOX1.out, (HLOW1.out.setCell (p := ⟨gs, p, none⟩) (by simp; omega) (.bool true)).drew⟩
            have h2 := (HR1.out.set (b := p) (by omega) HV.out).below (Below.refl _ _).drew
            rw [show beginK k (j + 1) es = ⟨(beginK k j es).inn, fun x y => (x == q && y == p) || ((x == p && y == q) || (beginK k j es).adj x y)⟩ from begin_step HE.out]
            exact h2
          case measure => simp [intOf]; omega
        · obtain rfl : j = es.length := by omega
          go_wp2
          go_ret
          have h2 := HR.out
          rw [show beginK k es.length es = beginS k es from by unfold beginK beginS; rw [List.take_length]] at h2
          exact ⟨_, _, _, _, _, _, _, rfl, ⟨by have := h2.low; omega, h2.hp, own_mono h2.inn (by omega), h2.hA, fun hN => by
            have h3 := h2.adj hN
            exact ⟨by have := h3.low; omega, h3.outer, h3.lv, h3.lr, fun i v xs hv hx => own_mono (h3.row i v xs hv hx) (by omega), h3.apart, h3.ne⟩, h2.far, h2.capa⟩, HLOW.out⟩
end Go.Proofs.Ytcbojlidfabgeaa
