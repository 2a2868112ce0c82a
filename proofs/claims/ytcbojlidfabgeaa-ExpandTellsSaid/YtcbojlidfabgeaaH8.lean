/- The program's layer 10: begin. Conditions: a right graph of at most 1000 vertices. -/
import Derived.Test.YtcbojlidfabgeaaG5
import Derived.Test.YtcbojlidfabgeaaH1
import Derived.Outline
namespace Go.Proofs.Ytcbojlidfabgeaa
open Go.RowKit
set_option linter.unusedVariables false
set_option linter.unusedSimpArgs false

/-- The rows of neighbours behind k edges. -/
def nbRows (N : Nat) (es : List (Int × Int)) (k : Nat) : List (List Int) := tab N fun v => nbL (es.take k) v
/-- While the edges go by: the box, the result's block, the rest, its rows. -/
structure BegP (w wr : World) (N : Nat) (es : List (Int × Int)) (A : Option Addr) (c gn gg rb : Nat) (vs : List Value) (rows : List (List Int)) : Prop where
  box : wr.heap[w.heap.size]? = some (.cells #[.int .i64 N, .slice A es.length c] 28 (0, 0))
  res : wr.heap[w.heap.size + 1]? = some (.cells #[.slice none 0 0, .slice none 0 0] 101 (0, 0))
  hp : wr.heap[rb]? = some (.cells #[.slice (some ⟨gn, 0, none⟩) N N, .slice (some ⟨gg, 0, none⟩) N N] 101 (0, 0))
  near : Rows2 wr (w.heap.size + 2) gn 3 30 N vs (rows.map ints)
  gone : wr.ownsRow (w.heap.size + 2) 4 1 (.slice (some ⟨gg, 0, none⟩) N N) N (tab N fun _ => .bool false)
  rlow : w.heap.size + 2 ≤ rb
  low : Below w.heap.size w wr
theorem alloc5 (w : World) (a b c d e : Obj) : (((((w.alloc a).alloc b).alloc c).alloc d).alloc e).drew.heap[w.heap.size]? = some a ∧ (((((w.alloc a).alloc b).alloc c).alloc d).alloc e).drew.heap[w.heap.size + 1]? = some b ∧ (((((w.alloc a).alloc b).alloc c).alloc d).alloc e).drew.heap[w.heap.size + 1 + 1]? = some c ∧ (((((w.alloc a).alloc b).alloc c).alloc d).alloc e).drew.heap[w.heap.size + 1 + 1 + 1]? = some d ∧ (((((w.alloc a).alloc b).alloc c).alloc d).alloc e).drew.heap[w.heap.size + 1 + 1 + 1 + 1]? = some e := by
  simp only [drew_get, alloc_get, World.size_alloc]
  refine ⟨?_, ?_, ?_, ?_, ?_⟩ <;> (repeat (first | rw [if_pos trivial] | rw [if_pos (by omega)] | rw [if_neg (by omega)]))
theorem made_toList (v : Value) (N : Nat) : madeCells #[v] N = (List.replicate N v).toArray := by
  rw [← Array.toList_inj, toList_madeCells_one]
theorem tab_const {α : Type} (N : Nat) (x : α) : tab N (fun _ => x) = List.replicate N x := by
  apply List.ext_getElem?
  intro i
  by_cases hi : i < N
  · rw [tab_get _ hi]; simp [hi]
  · rw [List.getElem?_eq_none (by simp; omega), List.getElem?_eq_none (by simp; omega)]
theorem BegP.start {w W : World} {N : Nat} {es : List (Int × Int)} {A : Option Addr} {c gn gg rb : Nat} (hN : N ≤ 1000)
    (h0 : W.heap[w.heap.size]? = some (.cells #[.int .i64 N, .slice A es.length c] 28 (0, 0)))
    (h1 : W.heap[w.heap.size + 1]? = some (.cells #[.slice none 0 0, .slice none 0 0] 101 (0, 0)))
    (h2 : W.heap[rb]? = some (.cells #[.slice (some ⟨gn, 0, none⟩) N N, .slice (some ⟨gg, 0, none⟩) N N] 101 (0, 0)))
    (h3 : W.heap[gn]? = some (.cells (madeCells #[.slice none 0 0] N) 30 (0, 0))) (h4 : W.heap[gg]? = some (.cells (madeCells #[.bool false] N) 4 (0, 0)))
    (h5 : w.heap.size + 2 ≤ rb ∧ w.heap.size + 2 ≤ gn ∧ w.heap.size + 2 ≤ gg) (hb : Below w.heap.size w W) : BegP w W N es A c gn gg rb (List.replicate N (.slice none 0 0)) (nbRows N es 0) := by
  refine ⟨h0, h1, h2, ⟨h5.2.1, ⟨[], by rw [List.append_nil, h3, made_toList]⟩, by simp, by simp [nbRows], ?_, ?_, by decide⟩, ?_, h5.1, hb⟩
  · intro i v xs hv hx
    have hi : i < N := by have := (List.getElem?_eq_some_iff.1 hv).1; simpa using this
    rw [List.getElem?_replicate, if_pos hi] at hv
    rw [List.getElem?_map, nbRows, tab_get _ hi] at hx
    simp [nbL, ints] at hx hv
    subst hx; subst hv
    exact World.ownsRow_nil _ _ _ _
  · intro i j v v' _ hv _
    have hi : i < N := by have := (List.getElem?_eq_some_iff.1 hv).1; simpa using this
    rw [List.getElem?_replicate, if_pos hi] at hv
    simp at hv; subst hv
    exact .inl rfl
  · rw [made_toList] at h4
    exact own_mk h4 h5.2.2 (Nat.le_refl _) (by unfold maxLen; omega) (by simp) (by rw [tab_const, List.take_of_length_le (by simp)])
theorem nbL_len (es : List (Int × Int)) (v : Int) : (nbL es v).length ≤ es.length := by
  unfold nbL
  induction es with
  | nil => simp
  | cons e l ih =>
    rw [List.flatMap_cons, List.length_append, List.length_cons]
    have : (nbOf v e).length ≤ 1 := by unfold nbOf; split; simp; split <;> simp
    omega
theorem nbRows_len (N : Nat) (es : List (Int × Int)) (k : Nat) : ∀ u ∈ nbRows N es k, u.length ≤ es.length := by
  intro u hu
  obtain ⟨i, hi⟩ := List.mem_iff_getElem?.1 hu
  obtain ⟨_, rfl⟩ := tab_get_inv hi
  have := nbL_len (es.take k) i
  rw [List.length_take] at this
  omega
/-- One neighbour more in the row a. -/
theorem BegP.step {w wr w1 : World} {N : Nat} {es : List (Int × Int)} {A : Option Addr} {c gn gg rb : Nat} {vs : List Value} {rows : List (List Int)} (h : BegP w wr N es A c gn gg rb vs rows) {o : Obj} {a : Nat} {u : List Int} {v : Value} {x : Int} {g cap : Nat}
    (hv : vs[a]? = some v) (hu : rows[a]? = some u) (hg : (wr.alloc o).drew.grownBy w1 v.ownBlock) (ho : w1.ownsRow (w.heap.size + 2) 3 1 (.slice (some ⟨g, 0, none⟩) (u.length + 1) cap) (u.length + 1) (ints u ++ [.int .i64 x])) (hat : v.ownBlock = some g ∨ g = wr.heap.size + 1) :
    BegP w (w1.setCell ⟨gn, a, none⟩ (.slice (some ⟨g, 0, none⟩) (u.length + 1) cap)) N es A c gn gg rb (vs.set a (.slice (some ⟨g, 0, none⟩) (u.length + 1) cap)) (rows.set a (u ++ [x])) := by
  have hb : Below wr.heap.size wr (wr.alloc o).drew := (below_alloc wr o).drew
  have hrow := h.near.row a v _ hv (h.near.row' hu)
  obtain ⟨tl, hout⟩ := h.near.outer
  have hn1 := heap_keep hg hb hout (own_block_ne hrow hout (by decide))
  have other : ∀ {k : Nat} {cs : Array Value} {t : TypeId}, wr.heap[k]? = some (.cells cs t (0, 0)) → t ≠ 3 → t ≠ 30 → (w1.setCell ⟨gn, a, none⟩ (.slice (some ⟨g, 0, none⟩) (u.length + 1) cap)).heap[k]? = some (.cells cs t (0, 0)) := by
    intro k cs t hk h3 h30
    have h1 := heap_keep hg hb hk (own_block_ne hrow hk (Ne.symm h3))
    rw [heap_setCell_other _ _ _ _ (by simpa using block_ne hk hout h30)]
    exact h1
  have hgone := own_keep hg hb h.gone (own_type_ne h.gone hrow (by decide))
  have hsz := h.low.size
  refine ⟨other h.box (by decide) (by decide), other h.res (by decide) (by decide), other h.hp (by decide) (by decide), ?_, own_setCell hgone (own_block_ne hgone hn1 (by decide)), h.rlow, ?_⟩
  · have := (h.near.below hb).write hv (h.near.row' hu) hg (v' := .slice (some ⟨g, 0, none⟩) (u.length + 1) cap) (xs' := ints (u ++ [x])) (by rw [ints_length, List.length_append, ints_append]; exact ho) (by
      rcases hat with h1 | h1
      · exact .inr (.inl h1.symm)
      · exact .inr (.inr ⟨g, rfl, by rw [h1]; simp⟩))
    rw [List.map_set]; exact this
  · refine (below_keep h.low hsz hg hb (fun r hr => ?_)).setCell (by have := h.near.low; simp only; omega) _
    have := (hrow.lt r hr).1
    omega
theorem BegP.below {w wr wr' : World} {N : Nat} {es : List (Int × Int)} {A : Option Addr} {c gn gg rb : Nat} {vs : List Value} {rows : List (List Int)} (h : BegP w wr N es A c gn gg rb vs rows) (hb : Below wr.heap.size wr wr') : BegP w wr' N es A c gn gg rb vs rows := by
  have key : ∀ {k : Nat} {x : Obj}, wr.heap[k]? = some x → wr'.heap[k]? = some x := fun hk => (hb.block _ (Array.getElem?_eq_some_iff.1 hk).1).trans hk
  exact ⟨key h.box, key h.res, key h.hp, h.near.below hb, own_below h.gone hb, h.rlow, below_join h.low hb⟩
/-- What is read behind the append, ahead of the store. -/
theorem BegP.after {w wr w1 : World} {N : Nat} {es : List (Int × Int)} {A : Option Addr} {c gn gg rb eb : Nat} {vs : List Value} {rows : List (List Int)} (h : BegP w wr N es A c gn gg rb vs rows) {o : Obj} {a : Nat} {u : List Int} {v : Value} {x y : Int}
    (hv : vs[a]? = some v) (hu : rows[a]? = some u) (he : wr.heap[eb]? = some (.cells #[.int .i64 x, .int .i64 y] 59 (0, 0))) (hg : (wr.alloc o).drew.grownBy w1 v.ownBlock) :
    w1.cell? ⟨gn, a, none⟩ = some v ∧ w1.frozen? ⟨gn, a, none⟩ = false ∧ w1.cell? ⟨rb, 0, none⟩ = some (.slice (some ⟨gn, 0, none⟩) N N) ∧ w1.cell? ⟨eb, 0, none⟩ = some (.int .i64 x) ∧ w1.cell? ⟨eb, 1, none⟩ = some (.int .i64 y) ∧ w1.heap[eb]? = some (.cells #[.int .i64 x, .int .i64 y] 59 (0, 0)) := by
  have hb : Below wr.heap.size wr (wr.alloc o).drew := (below_alloc wr o).drew
  have hrow := h.near.row a v _ hv (h.near.row' hu)
  obtain ⟨tl, hout⟩ := h.near.outer
  have h1 := heap_keep hg hb hout (own_block_ne hrow hout (by decide))
  have h2 := heap_keep hg hb h.hp (own_block_ne hrow h.hp (by decide))
  have h3 := heap_keep hg hb he (own_block_ne hrow he (by decide))
  obtain ⟨q0, _, _, _⟩ := cells2 h2
  obtain ⟨e0, e1, _, _⟩ := cells2 h3
  refine ⟨?_, frozen_of_row w1 _ a _ _ h1, q0, e0, e1, h3⟩
  rw [cells_cell h1, List.getElem?_append_left (List.getElem?_eq_some_iff.1 hv).1, hv]
theorem Rows2.aside {w : World} {base g et ot n : Nat} {vs : List Value} {rows : List (List Value)} (h : Rows2 w base g et ot n vs rows) {b i : Nat} {u : Value} {cs : Array Value} {t : TypeId} {fr : Nat × Nat} (hb : w.heap[b]? = some (.cells cs t fr)) (h1 : et ≠ t) (h2 : ot ≠ t) : Rows2 (w.setCell ⟨b, i, none⟩ u) base g et ot n vs rows := by
  obtain ⟨tl, ht⟩ := h.outer
  refine ⟨h.low, ⟨tl, ?_⟩, h.lv, h.lr, fun i v xs hv hx => own_setCell (h.row i v xs hv hx) (own_block_ne (h.row i v xs hv hx) hb h1), h.apart, h.ne⟩
  rw [heap_setCell_other _ _ _ _ (by simpa using block_ne ht hb h2)]
  exact ht
theorem Rows2.mono {w : World} {base base' g et ot n : Nat} {vs : List Value} {rows : List (List Value)} (h : Rows2 w base g et ot n vs rows) (hb : base' ≤ base) : Rows2 w base' g et ot n vs rows :=
  ⟨Nat.le_trans hb h.low, h.outer, h.lv, h.lr, fun i v xs hv hx => own_mono (h.row i v xs hv hx) hb, h.apart, h.ne⟩
theorem RestP.aside {w : World} {base N : Nat} {s : St} {gn cn gg cg : Nat} {vs : List Value} (h : RestP w base N s gn cn gg cg vs) {b i : Nat} {u : Value} {cs : Array Value} {t : TypeId} {fr : Nat × Nat} (hb : w.heap[b]? = some (.cells cs t fr)) (h1 : 3 ≠ t) (h2 : 30 ≠ t) (h3 : 4 ≠ t) : RestP (w.setCell ⟨b, i, none⟩ u) base N s gn cn gg cg vs :=
  ⟨h.near.aside hb h1 h2, own_setCell h.gone (own_block_ne h.gone hb h3), h.cap⟩
theorem two_sets {w : World} {g : Nat} {t : TypeId} {a b : Value} (h : w.heap[g]? = some (.cells #[a, b] t (0, 0))) (a' b' : Value) :
    w.cell? ⟨g, 0, none⟩ = some a ∧ w.frozen? ⟨g, 0, none⟩ = false ∧ (w.setCell ⟨g, 0, none⟩ a').cell? ⟨g, 1, none⟩ = some b ∧ (w.setCell ⟨g, 0, none⟩ a').frozen? ⟨g, 1, none⟩ = false ∧ ((w.setCell ⟨g, 0, none⟩ a').setCell ⟨g, 1, none⟩ b').heap[g]? = some (.cells #[a', b'] t (0, 0)) := by
  have H1 := heap_setCell (cs := [a, b]) (i := 0) h a'
  have H2 := heap_setCell (cs := [a', b]) (i := 1) H1 b'
  obtain ⟨x0, _, _, _⟩ := cells2 h
  obtain ⟨_, x1, _, _⟩ := cells2 (a := a') (b := b) H1
  exact ⟨x0, frozen_of_row w g 0 _ _ h, x1, frozen_of_row _ g 1 _ _ H1, H2⟩
theorem nbRows_two {N k : Nat} {es : List (Int × Int)} {p q : Nat} (hpq : p ≠ q) (ht : ∀ v : Int, nbL (es.take (k + 1)) v = nbL (es.take k) v ++ nbOf v ((p : Int), (q : Int))) :
    ((nbRows N es k).set p (nbL (es.take k) p ++ [(q : Int)])).set q (nbL (es.take k) q ++ [(p : Int)]) = nbRows N es (k + 1) := by
  unfold nbRows
  rw [tab_set, tab_set]
  apply tab_congr
  intro i hi
  rw [ht]
  have e1 : ∀ a b : Nat, ((a : Int) = (b : Int)) ↔ a = b := fun a b => by omega
  simp only [nbOf, e1]
  by_cases h1 : i = q
  · subst h1; simp
  · rw [if_neg h1, if_neg (Ne.symm h1)]
    by_cases h2 : i = p
    · subst h2; simp
    · rw [if_neg h2, if_neg (Ne.symm h2), List.append_nil]
theorem nbRows_get {N k : Nat} {es : List (Int × Int)} {p : Nat} (h : p < N) : (nbRows N es k)[p]? = some (nbL (es.take k) p) := tab_get _ h
theorem nbRows_get2 {N k : Nat} {es : List (Int × Int)} {p q : Nat} {u : List Int} (hpq : p ≠ q) (h : q < N) : ((nbRows N es k).set p u)[q]? = some (nbL (es.take k) q) := by
  rw [List.getElem?_set_ne hpq]; exact nbRows_get h
set_option maxHeartbeats 3200000 in
set_option maxRecDepth 100000 in
theorem begin_any (w : World) (N : Nat) (A : Option Addr) (c : Nat) (es : List (Int × Int)) (h : Sl w A es.length c 2 (edgeCells es)) (hN : N ≤ 1000) (hright : rightB N es = true) :
    Calls Try.prog 52 #[.agg #[.int .i64 N, .slice A es.length c]] w fun e w' => ∃ gn cn gg cg vs, e = .returned (restV N gn cn gg cg) ∧ RestP w' w.heap.size N (beginS N es) gn cn gg cg vs ∧ Below w.heap.size w w' := by
  have hm := h.nm
  have hel := right_len hright
  have H := Lib.hid h
  have HRT := Lib.hid hright
  clear h hright
  have hmk := run_make_row' (P := Try.prog) 99 4 (.bool false) 1 Try.underlying99 info4 rfl .i64 .i64 N (by omega) (by omega)
  have hmk2 := run_make_row' (P := Try.prog) 38 30 (.slice none 0 0) 24 Try.underlying38 info30 rfl .i64 .i64 N (by omega) (by omega)
  obtain ⟨i0, hi, hz0, hz1, hz2⟩ := info_parts info3
  go_enter Try.func52, Try.ntmps52
  go_upto_region 1 with (fail)
  go_cut [3] from 8 to 14 (fun r wx => ∃ gn gg rb, r = .pointer (some ⟨rb, 0, none⟩) ∧ Hid (BegP w wx N es A c gn gg rb (List.replicate N (.slice none 0 0)) (nbRows N es 0)))
  case first =>
    go_region
    all_goals go_wp2
    all_goals go_meet
    all_goals first
      | (obtain ⟨x0, x1, x2, x3, x4⟩ := alloc5 w _ _ _ _ _; exact ⟨w.heap.size + 1 + 1, w.heap.size + 1 + 1 + 1, w.heap.size + 1 + 1 + 1 + 1, rfl, BegP.start hN x0 x1 x4 x2 x3 ⟨by omega, by omega, by omega⟩ (below_join (below_join (below_join (below_join (below_alloc _ _) (below_alloc _ _)) (below_alloc _ _)) (below_alloc _ _)) (below_alloc _ _)).drew⟩)
      | (obtain ⟨x0, x1, x2, x3, x4⟩ := alloc5 w _ _ _ _ _; exact ⟨w.heap.size + 1 + 1, w.heap.size + 1 + 1 + 1 + 1, w.heap.size + 1 + 1 + 1, rfl, BegP.start hN x0 x1 x3 x2 x4 ⟨by omega, by omega, by omega⟩ (below_join (below_join (below_join (below_join (below_alloc _ _) (below_alloc _ _)) (below_alloc _ _)) (below_alloc _ _)) (below_alloc _ _)).drew⟩)
      | (obtain ⟨x0, x1, x2, x3, x4⟩ := alloc5 w _ _ _ _ _; exact ⟨w.heap.size + 1 + 1 + 1, w.heap.size + 1 + 1, w.heap.size + 1 + 1 + 1 + 1, rfl, BegP.start hN x0 x1 x4 x3 x2 ⟨by omega, by omega, by omega⟩ (below_join (below_join (below_join (below_join (below_alloc _ _) (below_alloc _ _)) (below_alloc _ _)) (below_alloc _ _)) (below_alloc _ _)).drew⟩)
      | (obtain ⟨x0, x1, x2, x3, x4⟩ := alloc5 w _ _ _ _ _; exact ⟨w.heap.size + 1 + 1 + 1, w.heap.size + 1 + 1 + 1 + 1, w.heap.size + 1 + 1, rfl, BegP.start hN x0 x1 x2 x3 x4 ⟨by omega, by omega, by omega⟩ (below_join (below_join (below_join (below_join (below_alloc _ _) (below_alloc _ _)) (below_alloc _ _)) (below_alloc _ _)) (below_alloc _ _)).drew⟩)
      | (obtain ⟨x0, x1, x2, x3, x4⟩ := alloc5 w _ _ _ _ _; exact ⟨w.heap.size + 1 + 1 + 1 + 1, w.heap.size + 1 + 1, w.heap.size + 1 + 1 + 1, rfl, BegP.start hN x0 x1 x3 x4 x2 ⟨by omega, by omega, by omega⟩ (below_join (below_join (below_join (below_join (below_alloc _ _) (below_alloc _ _)) (below_alloc _ _)) (below_alloc _ _)) (below_alloc _ _)).drew⟩)
      | (obtain ⟨x0, x1, x2, x3, x4⟩ := alloc5 w _ _ _ _ _; exact ⟨w.heap.size + 1 + 1 + 1 + 1, w.heap.size + 1 + 1 + 1, w.heap.size + 1 + 1, rfl, BegP.start hN x0 x1 x2 x4 x3 ⟨by omega, by omega, by omega⟩ (below_join (below_join (below_join (below_join (below_alloc _ _) (below_alloc _ _)) (below_alloc _ _)) (below_alloc _ _)) (below_alloc _ _)).drew⟩)
  case rest =>
    obtain ⟨gn, gg, rb, rfl, HI⟩ := hcut
    obtain ⟨p0, p1, _, _⟩ := cells2 HI.out.box
    obtain ⟨q0, q1, _, _⟩ := cells2 HI.out.hp
    go_wp2_with fail
    clear p0 p1 q0 q1
    go_loopw [18] (fun i wr => ∃ (k : Nat) (vs : List Value), i = .int .i64 k ∧ k ≤ es.length ∧ Hid (BegP w wr N es A c gn gg rb vs (nbRows N es k))) (fun i _ => es.length - (intOf i).toNat)
    case atStart => exact ⟨0, _, rfl, Nat.zero_le _, HI.out⟩
    case round =>
      clear HI
      obtain ⟨k, vs, rfl, hk, HI⟩ := hrel
      obtain ⟨p0, p1, _, _⟩ := cells2 HI.out.box
      obtain ⟨q0, q1, _, _⟩ := cells2 HI.out.hp
      by_cases hlt : k < es.length
      · obtain ⟨be, oe, hA, hc⟩ := H.out.at' (by omega)
        clear H
        subst hA
        obtain ⟨⟨x, y⟩, he⟩ : ∃ e, es[k]? = some e := ⟨_, List.getElem?_eq_getElem hlt⟩
        obtain ⟨r1, r2, r3⟩ := right_range HRT.out he
        have d0 := cell_keep HI.out.low (hc _ _ (edgeCells_get he).1)
        have d1 := cell_keep HI.out.low (hc _ _ (edgeCells_get he).2)
        simp only [← Nat.add_assoc] at d0 d1
        obtain ⟨p, rfl⟩ : ∃ p : Nat, x = p := ⟨x.toNat, by omega⟩
        obtain ⟨q, rfl⟩ : ∃ q : Nat, y = q := ⟨y.toNat, by omega⟩
        have HT := Lib.hid (fun v => nbL_take he v)
        clear hc he
        go_wp2_with fail
        obtain ⟨W5, hW5⟩ : ∃ W5, wr.alloc (Obj.cells #[Value.int .i64 (p : Int), Value.int .i64 (q : Int)] 59) = W5 := ⟨_, rfl⟩
        have hbw : Below wr.heap.size wr W5 := hW5 ▸ below_alloc _ _
        have HEB := Lib.hid (show W5.heap[wr.heap.size]? = some (.cells #[.int .i64 p, .int .i64 q] 59 (0, 0)) from hW5 ▸ heap_alloc_new wr _)
        have HI5 := Lib.hid (HI.out.below hbw)
        rw [hW5]
        clear hW5 hbw p0 p1 q0 q1 d0 d1
        generalize wr.heap.size = eb at *
        have hpN : p < N := by omega
        have hqN : q < N := by omega
        have hpq : p ≠ q := by omega
        have hl1 := nbL_len (es.take k) p
        have hl2 := nbL_len (es.take k) q
        rw [List.length_take] at hl1 hl2
        go_upto_region 5 with (fail)
        go_cut [5] from 22 to 36 (fun r wx => r = .pointer (some ⟨eb, 0, none⟩) ∧ ∃ vs', Hid (BegP w wx N es (some ⟨be, oe, none⟩) c gn gg rb vs' ((nbRows N es k).set p (nbL (es.take k) p ++ [(q : Int)]))) ∧ Hid (wx.heap[eb]? = some (.cells #[.int .i64 (p : Int), .int .i64 (q : Int)] 59 (0, 0))))
        case first =>
          obtain ⟨A1, c1, u, hv, hu, hown, hsl⟩ := HI5.out.near.int hpN
          rw [nbRows_get hpN] at hu
          injection hu with hu
          subst hu
          have HU := Lib.hid (nbRows_get (k := k) (es := es) hpN)
          have e0 := HI5.out.near.cell hv
          obtain ⟨q0, _, _, _⟩ := cells2 HI5.out.hp
          obtain ⟨f0, f1, _, _⟩ := cells2 HEB.out
          have hgnl : gn < W5.heap.size := HI5.out.near.lt
          have hrbl : rb < W5.heap.size := (Array.getElem?_eq_some_iff.1 HI5.out.hp).1
          have hebl : eb < W5.heap.size := (Array.getElem?_eq_some_iff.1 HEB.out).1
          have hne1 : rb ≠ gn := by obtain ⟨tl, ht⟩ := HI5.out.near.outer; exact block_ne HI5.out.hp ht (by decide)
          have hne2 : eb ≠ gn := by obtain ⟨tl, ht⟩ := HI5.out.near.outer; exact block_ne HEB.out ht (by decide)
          have HV := Lib.hid hv
          have HO := Lib.hid hown
          clear hv hown hsl
          obtain ⟨u, hu⟩ : ∃ u, nbL (es.take k) p = u := ⟨_, rfl⟩
          rw [hu] at HV HU HO e0 hl1
          have HUU := Lib.hid hu
          clear hu
          refine wp_region_held_drew (S := (fun w' => w'.cell? ⟨rb, 0, none⟩ = some (.slice (some ⟨gn, 0, none⟩) N N) ∧ w'.cell? ⟨eb, 0, none⟩ = some (.int .i64 (p : Int)) ∧ w'.cell? ⟨eb, 1, none⟩ = some (.int .i64 (q : Int)))) (by kernel_rfl) ?_ (fun hHeld => ?_)
          · try dsimp only
            (first | (refine ⟨?_, ?_, ?_⟩ <;> first | assumption | exact cell_set_far (by assumption) hne1 | exact cell_set_far (by assumption) hne2 | go_keep))
          refine wpAnyH_take (i := 0) (v := ?_) rfl (by kernel_rfl) (by kernel_rfl) (by kernel_rfl) (fun _ _ _ h => h) (Or.inl ⟨by rfl, ?_⟩) (by assumption) ?_; rotate_left; (focus (intro w hSw; (try dsimp only at hSw); go_simp; (try with_reducible rfl); done)); try simp only [List.getElem_toArray, List.getElem_cons_zero, List.getElem_cons_succ, Act.put, List.setIfInBounds_toArray, List.set_cons_zero, List.set_cons_succ]
          refine wpAnyH_take (i := 1) (v := ?_) rfl (by kernel_rfl) (by kernel_rfl) (by kernel_rfl) (fun _ _ _ h => h) (Or.inl ⟨by rfl, ?_⟩) (by assumption) ?_; rotate_left; (focus (intro w hSw; (try dsimp only at hSw); go_simp; (try with_reducible rfl); done)); try simp only [List.getElem_toArray, List.getElem_cons_zero, List.getElem_cons_succ, Act.put, List.setIfInBounds_toArray, List.set_cons_zero, List.set_cons_succ]
          refine wpAnyH_take (i := 2) (v := ?_) rfl (by kernel_rfl) (by kernel_rfl) (by kernel_rfl) (fun _ _ _ h => h) (Or.inl ⟨by rfl, ?_⟩) (by assumption) ?_; rotate_left; (focus (intro w hSw; (try dsimp only at hSw); go_simp; (try with_reducible rfl); done)); try simp only [List.getElem_toArray, List.getElem_cons_zero, List.getElem_cons_succ, Act.put, List.setIfInBounds_toArray, List.set_cons_zero, List.set_cons_succ]
          refine wpAnyH_take (i := 3) (v := ?_) rfl (by kernel_rfl) (by kernel_rfl) (by kernel_rfl) (fun _ _ _ h => h) (Or.inl ⟨by rfl, ?_⟩) (by assumption) ?_; rotate_left; (focus (intro w hSw; (try dsimp only at hSw); go_simp; (try with_reducible rfl); done)); try simp only [List.getElem_toArray, List.getElem_cons_zero, List.getElem_cons_succ, Act.put, List.setIfInBounds_toArray, List.set_cons_zero, List.set_cons_succ]
          refine wpAnyH_take (i := 4) (v := ?_) rfl (by kernel_rfl) (by kernel_rfl) (by kernel_rfl) (fun _ _ _ h => h) (Or.inl ⟨by rfl, ?_⟩) (by assumption) ?_; rotate_left; (focus (intro w hSw; (try dsimp only at hSw); go_simp; (try with_reducible rfl); done)); try simp only [List.getElem_toArray, List.getElem_cons_zero, List.getElem_cons_succ, Act.put, List.setIfInBounds_toArray, List.set_cons_zero, List.set_cons_succ]
          refine wpAnyH_take (i := 5) (v := ?_) rfl (by kernel_rfl) (by kernel_rfl) (by kernel_rfl) (fun _ _ _ h => h) (Or.inl ⟨by rfl, ?_⟩) (by assumption) ?_; rotate_left; (focus (intro w hSw; (try dsimp only at hSw); go_simp; (try with_reducible rfl); done)); try simp only [List.getElem_toArray, List.getElem_cons_zero, List.getElem_cons_succ, Act.put, List.setIfInBounds_toArray, List.set_cons_zero, List.set_cons_succ]
          refine wpAnyH_take (i := 6) (v := ?_) rfl (by kernel_rfl) (by kernel_rfl) (by kernel_rfl) (fun _ _ _ h => h) (Or.inl ⟨by rfl, ?_⟩) (by assumption) ?_; rotate_left; (focus (intro w hSw; (try dsimp only at hSw); go_simp; (try with_reducible rfl); done)); try simp only [List.getElem_toArray, List.getElem_cons_zero, List.getElem_cons_succ, Act.put, List.setIfInBounds_toArray, List.set_cons_zero, List.set_cons_succ]
          refine wpAnyH_take (i := 7) (v := ?_) rfl (by kernel_rfl) (by kernel_rfl) (by kernel_rfl) (fun _ _ _ h => h) (Or.inl ⟨by rfl, ?_⟩) (by assumption) ?_; rotate_left; (focus (intro w hSw; (try dsimp only at hSw); go_simp; (try with_reducible rfl); done)); try simp only [List.getElem_toArray, List.getElem_cons_zero, List.getElem_cons_succ, Act.put, List.setIfInBounds_toArray, List.set_cons_zero, List.set_cons_succ]
          refine wpAnyH_take (i := 8) (v := ?_) rfl (by kernel_rfl) (by kernel_rfl) (by kernel_rfl) (fun _ _ _ h => h) (Or.inl ⟨by rfl, ?_⟩) (by assumption) ?_; rotate_left; (focus (intro w hSw; (try dsimp only at hSw); go_simp; (try with_reducible rfl); done)); try simp only [List.getElem_toArray, List.getElem_cons_zero, List.getElem_cons_succ, Act.put, List.setIfInBounds_toArray, List.set_cons_zero, List.set_cons_succ]
          refine wpAnyH_take (i := 10) (v := ?_) rfl (by kernel_rfl) (by kernel_rfl) (by kernel_rfl) (fun _ _ _ h => h) (Or.inl ⟨by rfl, ?_⟩) (by assumption) ?_; rotate_left; (focus (intro w hSw; (try dsimp only at hSw); go_simp; (try with_reducible rfl); done)); try simp only [List.getElem_toArray, List.getElem_cons_zero, List.getElem_cons_succ, Act.put, List.setIfInBounds_toArray, List.set_cons_zero, List.set_cons_succ]
          refine wpAnyH_take (i := 11) (v := ?_) rfl (by kernel_rfl) (by kernel_rfl) (by kernel_rfl) (fun _ _ _ h => h) (Or.inl ⟨by rfl, ?_⟩) (by assumption) ?_; rotate_left; (focus (intro w hSw; (try dsimp only at hSw); go_simp; (try with_reducible rfl); done)); try simp only [List.getElem_toArray, List.getElem_cons_zero, List.getElem_cons_succ, Act.put, List.setIfInBounds_toArray, List.set_cons_zero, List.set_cons_succ]
          refine wpAnyH_ready (rs := [9, 12]) (by kernel_rfl) (by simp) (AllReadyH.cons rfl (fun K hK => ?_) (AllReadyH.cons rfl (fun K hK => ?_) AllReadyH.nil))
          (first | (first | (refine step_append_lies _ (by rfl) _ _ _ (by rfl) (w.heap.size + 2) 3 i0 _ 1 8 Try.underlying30 hi hz0 hz1 hz2 rfl (by omega) (.slice A1 u.length c1) u.length (ints u) (by rfl) ((HO.out.alloc _).drew) ⟨W5.heap.size, 0, none⟩ 1 1 [.int .i64 q] (by rfl) (by rfl) (World.news_of_block (cs := #[.int .i64 q]) (t := 3) (fr := (0, 0)) (heap_alloc_new W5 _)) (by simp [Value.oneCell']) (by omega) (by unfold maxLen; omega) (by omega) (by have := HI5.out.low.size; have := HI5.out.near.lt; have := HI5.out.near.low; simp; omega) (W5.heap.size + 1) (by simp) ?_; intro g6 cap6 w6 hown6 hgrow6 hat6 hlt6; obtain ⟨s1, s2, s3, s4, s5, s6⟩ := HI5.out.after HV.out HU.out HEB.out hgrow6; have HI6 := Lib.hid (HI5.out.step HV.out HU.out hgrow6 hown6 hat6); have HEB6 := Lib.hid s6; clear hown6 hgrow6 hat6 hlt6 s6)) | go_simp); refine hK.out _ _ ?_ (fun hHeld => ?_); (try dsimp only); (first | (refine ⟨?_, ?_, ?_⟩ <;> first | assumption | exact cell_set_far (by assumption) hne1 | exact cell_set_far (by assumption) hne2 | go_keep)); clear hK K; try simp only [List.getElem_toArray, List.getElem_cons_zero, List.getElem_cons_succ, Act.put, List.setIfInBounds_toArray, List.set_cons_zero, List.set_cons_succ]
          refine wpAnyH_ready (rs := [12]) (by kernel_rfl) (by simp) (AllReadyH.cons rfl (fun K hK => ?_) AllReadyH.nil)
          (first | (first | (refine step_append_lies _ (by rfl) _ _ _ (by rfl) (w.heap.size + 2) 3 i0 _ 1 8 Try.underlying30 hi hz0 hz1 hz2 rfl (by omega) (.slice A1 u.length c1) u.length (ints u) (by rfl) ((HO.out.alloc _).drew) ⟨W5.heap.size, 0, none⟩ 1 1 [.int .i64 q] (by rfl) (by rfl) (World.news_of_block (cs := #[.int .i64 q]) (t := 3) (fr := (0, 0)) (heap_alloc_new W5 _)) (by simp [Value.oneCell']) (by omega) (by unfold maxLen; omega) (by omega) (by have := HI5.out.low.size; have := HI5.out.near.lt; have := HI5.out.near.low; simp; omega) (W5.heap.size + 1) (by simp) ?_; intro g6 cap6 w6 hown6 hgrow6 hat6 hlt6; obtain ⟨s1, s2, s3, s4, s5, s6⟩ := HI5.out.after HV.out HU.out HEB.out hgrow6; have HI6 := Lib.hid (HI5.out.step HV.out HU.out hgrow6 hown6 hat6); have HEB6 := Lib.hid s6; clear hown6 hgrow6 hat6 hlt6 s6)) | go_simp); refine hK.out _ _ ?_ (fun hHeld => ?_); (try dsimp only); (first | (refine ⟨?_, ?_, ?_⟩ <;> first | assumption | exact cell_set_far (by assumption) hne1 | exact cell_set_far (by assumption) hne2 | go_keep)); clear hK K; try simp only [List.getElem_toArray, List.getElem_cons_zero, List.getElem_cons_succ, Act.put, List.setIfInBounds_toArray, List.set_cons_zero, List.set_cons_succ]
          refine wpAnyH_ready (rs := [13]) (by kernel_rfl) (by simp) (AllReadyH.cons rfl (fun K hK => ?_) AllReadyH.nil)
          (first | (first | (refine step_append_lies _ (by rfl) _ _ _ (by rfl) (w.heap.size + 2) 3 i0 _ 1 8 Try.underlying30 hi hz0 hz1 hz2 rfl (by omega) (.slice A1 u.length c1) u.length (ints u) (by rfl) ((HO.out.alloc _).drew) ⟨W5.heap.size, 0, none⟩ 1 1 [.int .i64 q] (by rfl) (by rfl) (World.news_of_block (cs := #[.int .i64 q]) (t := 3) (fr := (0, 0)) (heap_alloc_new W5 _)) (by simp [Value.oneCell']) (by omega) (by unfold maxLen; omega) (by omega) (by have := HI5.out.low.size; have := HI5.out.near.lt; have := HI5.out.near.low; simp; omega) (W5.heap.size + 1) (by simp) ?_; intro g6 cap6 w6 hown6 hgrow6 hat6 hlt6; obtain ⟨s1, s2, s3, s4, s5, s6⟩ := HI5.out.after HV.out HU.out HEB.out hgrow6; have HI6 := Lib.hid (HI5.out.step HV.out HU.out hgrow6 hown6 hat6); have HEB6 := Lib.hid s6; clear hown6 hgrow6 hat6 hlt6 s6)) | go_simp); refine hK.out _ _ ?_ (fun hHeld => ?_); (try dsimp only); (first | (refine ⟨?_, ?_, ?_⟩ <;> first | assumption | exact cell_set_far (by assumption) hne1 | exact cell_set_far (by assumption) hne2 | go_keep)); clear hK K; try simp only [List.getElem_toArray, List.getElem_cons_zero, List.getElem_cons_succ, Act.put, List.setIfInBounds_toArray, List.set_cons_zero, List.set_cons_succ]
          refine wpAnyH_ready (rs := [14]) (by kernel_rfl) (by simp) (AllReadyH.cons rfl (fun K hK => ?_) AllReadyH.nil)
          (first | (first | (refine step_append_lies _ (by rfl) _ _ _ (by rfl) (w.heap.size + 2) 3 i0 _ 1 8 Try.underlying30 hi hz0 hz1 hz2 rfl (by omega) (.slice A1 u.length c1) u.length (ints u) (by rfl) ((HO.out.alloc _).drew) ⟨W5.heap.size, 0, none⟩ 1 1 [.int .i64 q] (by rfl) (by rfl) (World.news_of_block (cs := #[.int .i64 q]) (t := 3) (fr := (0, 0)) (heap_alloc_new W5 _)) (by simp [Value.oneCell']) (by omega) (by unfold maxLen; omega) (by omega) (by have := HI5.out.low.size; have := HI5.out.near.lt; have := HI5.out.near.low; simp; omega) (W5.heap.size + 1) (by simp) ?_; intro g6 cap6 w6 hown6 hgrow6 hat6 hlt6; obtain ⟨s1, s2, s3, s4, s5, s6⟩ := HI5.out.after HV.out HU.out HEB.out hgrow6; have HI6 := Lib.hid (HI5.out.step HV.out HU.out hgrow6 hown6 hat6); have HEB6 := Lib.hid s6; clear hown6 hgrow6 hat6 hlt6 s6)) | go_simp); refine hK.out _ _ ?_ (fun hHeld => ?_); (try dsimp only); (first | (refine ⟨?_, ?_, ?_⟩ <;> first | assumption | exact cell_set_far (by assumption) hne1 | exact cell_set_far (by assumption) hne2 | go_keep)); clear hK K; try simp only [List.getElem_toArray, List.getElem_cons_zero, List.getElem_cons_succ, Act.put, List.setIfInBounds_toArray, List.set_cons_zero, List.set_cons_succ]
          refine wpAnyH_ready (rs := [15]) (by kernel_rfl) (by simp) (AllReadyH.cons rfl (fun K hK => ?_) AllReadyH.nil)
          (first | (first | (refine step_append_lies _ (by rfl) _ _ _ (by rfl) (w.heap.size + 2) 3 i0 _ 1 8 Try.underlying30 hi hz0 hz1 hz2 rfl (by omega) (.slice A1 u.length c1) u.length (ints u) (by rfl) ((HO.out.alloc _).drew) ⟨W5.heap.size, 0, none⟩ 1 1 [.int .i64 q] (by rfl) (by rfl) (World.news_of_block (cs := #[.int .i64 q]) (t := 3) (fr := (0, 0)) (heap_alloc_new W5 _)) (by simp [Value.oneCell']) (by omega) (by unfold maxLen; omega) (by omega) (by have := HI5.out.low.size; have := HI5.out.near.lt; have := HI5.out.near.low; simp; omega) (W5.heap.size + 1) (by simp) ?_; intro g6 cap6 w6 hown6 hgrow6 hat6 hlt6; obtain ⟨s1, s2, s3, s4, s5, s6⟩ := HI5.out.after HV.out HU.out HEB.out hgrow6; have HI6 := Lib.hid (HI5.out.step HV.out HU.out hgrow6 hown6 hat6); have HEB6 := Lib.hid s6; clear hown6 hgrow6 hat6 hlt6 s6)) | go_simp); refine hK.out _ _ ?_ (fun hHeld => ?_); (try dsimp only); (first | (refine ⟨?_, ?_, ?_⟩ <;> first | assumption | exact cell_set_far (by assumption) hne1 | exact cell_set_far (by assumption) hne2 | go_keep)); clear hK K; try simp only [List.getElem_toArray, List.getElem_cons_zero, List.getElem_cons_succ, Act.put, List.setIfInBounds_toArray, List.set_cons_zero, List.set_cons_succ]
          refine wpAnyH_done (by kernel_rfl) ?_ _
          rotate_left
          (first | (first | (refine step_append_lies _ (by rfl) _ _ _ (by rfl) (w.heap.size + 2) 3 i0 _ 1 8 Try.underlying30 hi hz0 hz1 hz2 rfl (by omega) (.slice A1 u.length c1) u.length (ints u) (by rfl) ((HO.out.alloc _).drew) ⟨W5.heap.size, 0, none⟩ 1 1 [.int .i64 q] (by rfl) (by rfl) (World.news_of_block (cs := #[.int .i64 q]) (t := 3) (fr := (0, 0)) (heap_alloc_new W5 _)) (by simp [Value.oneCell']) (by omega) (by unfold maxLen; omega) (by omega) (by have := HI5.out.low.size; have := HI5.out.near.lt; have := HI5.out.near.low; simp; omega) (W5.heap.size + 1) (by simp) ?_; intro g6 cap6 w6 hown6 hgrow6 hat6 hlt6; obtain ⟨s1, s2, s3, s4, s5, s6⟩ := HI5.out.after HV.out HU.out HEB.out hgrow6; have HI6 := Lib.hid (HI5.out.step HV.out HU.out hgrow6 hown6 hat6); have HEB6 := Lib.hid s6; clear hown6 hgrow6 hat6 hlt6 s6)) | go_simp); refine hK.out _ _ ?_ (fun hHeld => ?_); (try dsimp only); (first | (refine ⟨?_, ?_, ?_⟩ <;> first | assumption | exact cell_set_far (by assumption) hne1 | exact cell_set_far (by assumption) hne2 | go_keep)); clear hK K; try simp only [List.getElem_toArray, List.getElem_cons_zero, List.getElem_cons_succ, Act.put, List.setIfInBounds_toArray, List.set_cons_zero, List.set_cons_succ]
          refine wpAnyH_ready (rs := [9]) (by kernel_rfl) (by simp) (AllReadyH.cons rfl (fun K hK => ?_) AllReadyH.nil)
          (first | (first | (refine step_append_lies _ (by rfl) _ _ _ (by rfl) (w.heap.size + 2) 3 i0 _ 1 8 Try.underlying30 hi hz0 hz1 hz2 rfl (by omega) (.slice A1 u.length c1) u.length (ints u) (by rfl) ((HO.out.alloc _).drew) ⟨W5.heap.size, 0, none⟩ 1 1 [.int .i64 q] (by rfl) (by rfl) (World.news_of_block (cs := #[.int .i64 q]) (t := 3) (fr := (0, 0)) (heap_alloc_new W5 _)) (by simp [Value.oneCell']) (by omega) (by unfold maxLen; omega) (by omega) (by have := HI5.out.low.size; have := HI5.out.near.lt; have := HI5.out.near.low; simp; omega) (W5.heap.size + 1) (by simp) ?_; intro g6 cap6 w6 hown6 hgrow6 hat6 hlt6; obtain ⟨s1, s2, s3, s4, s5, s6⟩ := HI5.out.after HV.out HU.out HEB.out hgrow6; have HI6 := Lib.hid (HI5.out.step HV.out HU.out hgrow6 hown6 hat6); have HEB6 := Lib.hid s6; clear hown6 hgrow6 hat6 hlt6 s6)) | go_simp); refine hK.out _ _ ?_ (fun hHeld => ?_); (try dsimp only); (first | (refine ⟨?_, ?_, ?_⟩ <;> first | assumption | exact cell_set_far (by assumption) hne1 | exact cell_set_far (by assumption) hne2 | go_keep)); clear hK K; try simp only [List.getElem_toArray, List.getElem_cons_zero, List.getElem_cons_succ, Act.put, List.setIfInBounds_toArray, List.set_cons_zero, List.set_cons_succ]
          refine wpAnyH_ready (rs := [13]) (by kernel_rfl) (by simp) (AllReadyH.cons rfl (fun K hK => ?_) AllReadyH.nil)
          (first | (first | (refine step_append_lies _ (by rfl) _ _ _ (by rfl) (w.heap.size + 2) 3 i0 _ 1 8 Try.underlying30 hi hz0 hz1 hz2 rfl (by omega) (.slice A1 u.length c1) u.length (ints u) (by rfl) ((HO.out.alloc _).drew) ⟨W5.heap.size, 0, none⟩ 1 1 [.int .i64 q] (by rfl) (by rfl) (World.news_of_block (cs := #[.int .i64 q]) (t := 3) (fr := (0, 0)) (heap_alloc_new W5 _)) (by simp [Value.oneCell']) (by omega) (by unfold maxLen; omega) (by omega) (by have := HI5.out.low.size; have := HI5.out.near.lt; have := HI5.out.near.low; simp; omega) (W5.heap.size + 1) (by simp) ?_; intro g6 cap6 w6 hown6 hgrow6 hat6 hlt6; obtain ⟨s1, s2, s3, s4, s5, s6⟩ := HI5.out.after HV.out HU.out HEB.out hgrow6; have HI6 := Lib.hid (HI5.out.step HV.out HU.out hgrow6 hown6 hat6); have HEB6 := Lib.hid s6; clear hown6 hgrow6 hat6 hlt6 s6)) | go_simp); refine hK.out _ _ ?_ (fun hHeld => ?_); (try dsimp only); (first | (refine ⟨?_, ?_, ?_⟩ <;> first | assumption | exact cell_set_far (by assumption) hne1 | exact cell_set_far (by assumption) hne2 | go_keep)); clear hK K; try simp only [List.getElem_toArray, List.getElem_cons_zero, List.getElem_cons_succ, Act.put, List.setIfInBounds_toArray, List.set_cons_zero, List.set_cons_succ]
          refine wpAnyH_ready (rs := [14]) (by kernel_rfl) (by simp) (AllReadyH.cons rfl (fun K hK => ?_) AllReadyH.nil)
          (first | (first | (refine step_append_lies _ (by rfl) _ _ _ (by rfl) (w.heap.size + 2) 3 i0 _ 1 8 Try.underlying30 hi hz0 hz1 hz2 rfl (by omega) (.slice A1 u.length c1) u.length (ints u) (by rfl) ((HO.out.alloc _).drew) ⟨W5.heap.size, 0, none⟩ 1 1 [.int .i64 q] (by rfl) (by rfl) (World.news_of_block (cs := #[.int .i64 q]) (t := 3) (fr := (0, 0)) (heap_alloc_new W5 _)) (by simp [Value.oneCell']) (by omega) (by unfold maxLen; omega) (by omega) (by have := HI5.out.low.size; have := HI5.out.near.lt; have := HI5.out.near.low; simp; omega) (W5.heap.size + 1) (by simp) ?_; intro g6 cap6 w6 hown6 hgrow6 hat6 hlt6; obtain ⟨s1, s2, s3, s4, s5, s6⟩ := HI5.out.after HV.out HU.out HEB.out hgrow6; have HI6 := Lib.hid (HI5.out.step HV.out HU.out hgrow6 hown6 hat6); have HEB6 := Lib.hid s6; clear hown6 hgrow6 hat6 hlt6 s6)) | go_simp); refine hK.out _ _ ?_ (fun hHeld => ?_); (try dsimp only); (first | (refine ⟨?_, ?_, ?_⟩ <;> first | assumption | exact cell_set_far (by assumption) hne1 | exact cell_set_far (by assumption) hne2 | go_keep)); clear hK K; try simp only [List.getElem_toArray, List.getElem_cons_zero, List.getElem_cons_succ, Act.put, List.setIfInBounds_toArray, List.set_cons_zero, List.set_cons_succ]
          refine wpAnyH_ready (rs := [15]) (by kernel_rfl) (by simp) (AllReadyH.cons rfl (fun K hK => ?_) AllReadyH.nil)
          (first | (first | (refine step_append_lies _ (by rfl) _ _ _ (by rfl) (w.heap.size + 2) 3 i0 _ 1 8 Try.underlying30 hi hz0 hz1 hz2 rfl (by omega) (.slice A1 u.length c1) u.length (ints u) (by rfl) ((HO.out.alloc _).drew) ⟨W5.heap.size, 0, none⟩ 1 1 [.int .i64 q] (by rfl) (by rfl) (World.news_of_block (cs := #[.int .i64 q]) (t := 3) (fr := (0, 0)) (heap_alloc_new W5 _)) (by simp [Value.oneCell']) (by omega) (by unfold maxLen; omega) (by omega) (by have := HI5.out.low.size; have := HI5.out.near.lt; have := HI5.out.near.low; simp; omega) (W5.heap.size + 1) (by simp) ?_; intro g6 cap6 w6 hown6 hgrow6 hat6 hlt6; obtain ⟨s1, s2, s3, s4, s5, s6⟩ := HI5.out.after HV.out HU.out HEB.out hgrow6; have HI6 := Lib.hid (HI5.out.step HV.out HU.out hgrow6 hown6 hat6); have HEB6 := Lib.hid s6; clear hown6 hgrow6 hat6 hlt6 s6)) | go_simp); refine hK.out _ _ ?_ (fun hHeld => ?_); (try dsimp only); (first | (refine ⟨?_, ?_, ?_⟩ <;> first | assumption | exact cell_set_far (by assumption) hne1 | exact cell_set_far (by assumption) hne2 | go_keep)); clear hK K; try simp only [List.getElem_toArray, List.getElem_cons_zero, List.getElem_cons_succ, Act.put, List.setIfInBounds_toArray, List.set_cons_zero, List.set_cons_succ]
          refine wpAnyH_done (by kernel_rfl) ?_ _
          rotate_left
          all_goals go_wp2_with fail
          all_goals go_meet
          all_goals exact ⟨rfl, _, by rw [HUU.out]; exact HI6.out, (heap_setCell_other _ _ _ _ (by simpa using hne2)).trans HEB6.out⟩
        case rest =>
          obtain ⟨rfl, vs', HI7, HEB7⟩ := hcut
          clear HI5 HEB HI
          have HTT := Lib.hid (nbRows_two (N := N) hpq HT.out)
          go_upto_region 6 with (fail)
          obtain ⟨A1, c1, u, hv, hu, hown, hsl⟩ := HI7.out.near.int hqN
          rw [nbRows_get2 hpq hqN] at hu
          injection hu with hu
          subst hu
          have HU := Lib.hid (nbRows_get2 (k := k) (es := es) (u := nbL (es.take k) p ++ [(q : Int)]) hpq hqN)
          have e0 := HI7.out.near.cell hv
          obtain ⟨q0, _, _, _⟩ := cells2 HI7.out.hp
          obtain ⟨f0, f1, _, _⟩ := cells2 HEB7.out
          have hgnl : gn < wc.heap.size := HI7.out.near.lt
          have hrbl : rb < wc.heap.size := (Array.getElem?_eq_some_iff.1 HI7.out.hp).1
          have hebl : eb < wc.heap.size := (Array.getElem?_eq_some_iff.1 HEB7.out).1
          have hne1 : rb ≠ gn := by obtain ⟨tl, ht⟩ := HI7.out.near.outer; exact block_ne HI7.out.hp ht (by decide)
          have hne2 : eb ≠ gn := by obtain ⟨tl, ht⟩ := HI7.out.near.outer; exact block_ne HEB7.out ht (by decide)
          have HV := Lib.hid hv
          have HO := Lib.hid hown
          clear hv hown hsl
          obtain ⟨u, hu⟩ : ∃ u, nbL (es.take k) q = u := ⟨_, rfl⟩
          rw [hu] at HV HU HO e0 hl2
          have HUU := Lib.hid hu
          clear hu
          refine wp_region_held_drew (S := (fun w' => w'.cell? ⟨rb, 0, none⟩ = some (.slice (some ⟨gn, 0, none⟩) N N) ∧ w'.cell? ⟨eb, 0, none⟩ = some (.int .i64 (p : Int)) ∧ w'.cell? ⟨eb, 1, none⟩ = some (.int .i64 (q : Int)))) (by kernel_rfl) ?_ (fun hHeld => ?_)
          · try dsimp only
            (first | (refine ⟨?_, ?_, ?_⟩ <;> first | assumption | exact cell_set_far (by assumption) hne1 | exact cell_set_far (by assumption) hne2 | go_keep))
          refine wpAnyH_take (i := 0) (v := ?_) rfl (by kernel_rfl) (by kernel_rfl) (by kernel_rfl) (fun _ _ _ h => h) (Or.inl ⟨by rfl, ?_⟩) (by assumption) ?_; rotate_left; (focus (intro w hSw; (try dsimp only at hSw); go_simp; (try with_reducible rfl); done)); try simp only [List.getElem_toArray, List.getElem_cons_zero, List.getElem_cons_succ, Act.put, List.setIfInBounds_toArray, List.set_cons_zero, List.set_cons_succ]
          refine wpAnyH_take (i := 1) (v := ?_) rfl (by kernel_rfl) (by kernel_rfl) (by kernel_rfl) (fun _ _ _ h => h) (Or.inl ⟨by rfl, ?_⟩) (by assumption) ?_; rotate_left; (focus (intro w hSw; (try dsimp only at hSw); go_simp; (try with_reducible rfl); done)); try simp only [List.getElem_toArray, List.getElem_cons_zero, List.getElem_cons_succ, Act.put, List.setIfInBounds_toArray, List.set_cons_zero, List.set_cons_succ]
          refine wpAnyH_take (i := 2) (v := ?_) rfl (by kernel_rfl) (by kernel_rfl) (by kernel_rfl) (fun _ _ _ h => h) (Or.inl ⟨by rfl, ?_⟩) (by assumption) ?_; rotate_left; (focus (intro w hSw; (try dsimp only at hSw); go_simp; (try with_reducible rfl); done)); try simp only [List.getElem_toArray, List.getElem_cons_zero, List.getElem_cons_succ, Act.put, List.setIfInBounds_toArray, List.set_cons_zero, List.set_cons_succ]
          refine wpAnyH_take (i := 3) (v := ?_) rfl (by kernel_rfl) (by kernel_rfl) (by kernel_rfl) (fun _ _ _ h => h) (Or.inl ⟨by rfl, ?_⟩) (by assumption) ?_; rotate_left; (focus (intro w hSw; (try dsimp only at hSw); go_simp; (try with_reducible rfl); done)); try simp only [List.getElem_toArray, List.getElem_cons_zero, List.getElem_cons_succ, Act.put, List.setIfInBounds_toArray, List.set_cons_zero, List.set_cons_succ]
          refine wpAnyH_take (i := 4) (v := ?_) rfl (by kernel_rfl) (by kernel_rfl) (by kernel_rfl) (fun _ _ _ h => h) (Or.inl ⟨by rfl, ?_⟩) (by assumption) ?_; rotate_left; (focus (intro w hSw; (try dsimp only at hSw); go_simp; (try with_reducible rfl); done)); try simp only [List.getElem_toArray, List.getElem_cons_zero, List.getElem_cons_succ, Act.put, List.setIfInBounds_toArray, List.set_cons_zero, List.set_cons_succ]
          refine wpAnyH_take (i := 5) (v := ?_) rfl (by kernel_rfl) (by kernel_rfl) (by kernel_rfl) (fun _ _ _ h => h) (Or.inl ⟨by rfl, ?_⟩) (by assumption) ?_; rotate_left; (focus (intro w hSw; (try dsimp only at hSw); go_simp; (try with_reducible rfl); done)); try simp only [List.getElem_toArray, List.getElem_cons_zero, List.getElem_cons_succ, Act.put, List.setIfInBounds_toArray, List.set_cons_zero, List.set_cons_succ]
          refine wpAnyH_take (i := 6) (v := ?_) rfl (by kernel_rfl) (by kernel_rfl) (by kernel_rfl) (fun _ _ _ h => h) (Or.inl ⟨by rfl, ?_⟩) (by assumption) ?_; rotate_left; (focus (intro w hSw; (try dsimp only at hSw); go_simp; (try with_reducible rfl); done)); try simp only [List.getElem_toArray, List.getElem_cons_zero, List.getElem_cons_succ, Act.put, List.setIfInBounds_toArray, List.set_cons_zero, List.set_cons_succ]
          refine wpAnyH_take (i := 7) (v := ?_) rfl (by kernel_rfl) (by kernel_rfl) (by kernel_rfl) (fun _ _ _ h => h) (Or.inl ⟨by rfl, ?_⟩) (by assumption) ?_; rotate_left; (focus (intro w hSw; (try dsimp only at hSw); go_simp; (try with_reducible rfl); done)); try simp only [List.getElem_toArray, List.getElem_cons_zero, List.getElem_cons_succ, Act.put, List.setIfInBounds_toArray, List.set_cons_zero, List.set_cons_succ]
          refine wpAnyH_take (i := 8) (v := ?_) rfl (by kernel_rfl) (by kernel_rfl) (by kernel_rfl) (fun _ _ _ h => h) (Or.inl ⟨by rfl, ?_⟩) (by assumption) ?_; rotate_left; (focus (intro w hSw; (try dsimp only at hSw); go_simp; (try with_reducible rfl); done)); try simp only [List.getElem_toArray, List.getElem_cons_zero, List.getElem_cons_succ, Act.put, List.setIfInBounds_toArray, List.set_cons_zero, List.set_cons_succ]
          refine wpAnyH_take (i := 10) (v := ?_) rfl (by kernel_rfl) (by kernel_rfl) (by kernel_rfl) (fun _ _ _ h => h) (Or.inl ⟨by rfl, ?_⟩) (by assumption) ?_; rotate_left; (focus (intro w hSw; (try dsimp only at hSw); go_simp; (try with_reducible rfl); done)); try simp only [List.getElem_toArray, List.getElem_cons_zero, List.getElem_cons_succ, Act.put, List.setIfInBounds_toArray, List.set_cons_zero, List.set_cons_succ]
          refine wpAnyH_take (i := 11) (v := ?_) rfl (by kernel_rfl) (by kernel_rfl) (by kernel_rfl) (fun _ _ _ h => h) (Or.inl ⟨by rfl, ?_⟩) (by assumption) ?_; rotate_left; (focus (intro w hSw; (try dsimp only at hSw); go_simp; (try with_reducible rfl); done)); try simp only [List.getElem_toArray, List.getElem_cons_zero, List.getElem_cons_succ, Act.put, List.setIfInBounds_toArray, List.set_cons_zero, List.set_cons_succ]
          refine wpAnyH_ready (rs := [9, 12]) (by kernel_rfl) (by simp) (AllReadyH.cons rfl (fun K hK => ?_) (AllReadyH.cons rfl (fun K hK => ?_) AllReadyH.nil))
          (first | (first | (refine step_append_lies _ (by rfl) _ _ _ (by rfl) (w.heap.size + 2) 3 i0 _ 1 8 Try.underlying30 hi hz0 hz1 hz2 rfl (by omega) (.slice A1 u.length c1) u.length (ints u) (by rfl) ((HO.out.alloc _).drew) ⟨wc.heap.size, 0, none⟩ 1 1 [.int .i64 p] (by rfl) (by rfl) (World.news_of_block (cs := #[.int .i64 p]) (t := 3) (fr := (0, 0)) (heap_alloc_new wc _)) (by simp [Value.oneCell']) (by omega) (by unfold maxLen; omega) (by omega) (by have := HI7.out.low.size; have := HI7.out.near.lt; have := HI7.out.near.low; simp; omega) (wc.heap.size + 1) (by simp) ?_; intro g6 cap6 w6 hown6 hgrow6 hat6 hlt6; obtain ⟨s1, s2, s3, s4, s5, s6⟩ := HI7.out.after HV.out HU.out HEB7.out hgrow6; have HI8 := Lib.hid (HI7.out.step HV.out HU.out hgrow6 hown6 hat6); have HEB8 := Lib.hid s6; clear hown6 hgrow6 hat6 hlt6 s6)) | go_simp); refine hK.out _ _ ?_ (fun hHeld => ?_); (try dsimp only); (first | (refine ⟨?_, ?_, ?_⟩ <;> first | assumption | exact cell_set_far (by assumption) hne1 | exact cell_set_far (by assumption) hne2 | go_keep)); clear hK K; try simp only [List.getElem_toArray, List.getElem_cons_zero, List.getElem_cons_succ, Act.put, List.setIfInBounds_toArray, List.set_cons_zero, List.set_cons_succ]
          refine wpAnyH_ready (rs := [12]) (by kernel_rfl) (by simp) (AllReadyH.cons rfl (fun K hK => ?_) AllReadyH.nil)
          (first | (first | (refine step_append_lies _ (by rfl) _ _ _ (by rfl) (w.heap.size + 2) 3 i0 _ 1 8 Try.underlying30 hi hz0 hz1 hz2 rfl (by omega) (.slice A1 u.length c1) u.length (ints u) (by rfl) ((HO.out.alloc _).drew) ⟨wc.heap.size, 0, none⟩ 1 1 [.int .i64 p] (by rfl) (by rfl) (World.news_of_block (cs := #[.int .i64 p]) (t := 3) (fr := (0, 0)) (heap_alloc_new wc _)) (by simp [Value.oneCell']) (by omega) (by unfold maxLen; omega) (by omega) (by have := HI7.out.low.size; have := HI7.out.near.lt; have := HI7.out.near.low; simp; omega) (wc.heap.size + 1) (by simp) ?_; intro g6 cap6 w6 hown6 hgrow6 hat6 hlt6; obtain ⟨s1, s2, s3, s4, s5, s6⟩ := HI7.out.after HV.out HU.out HEB7.out hgrow6; have HI8 := Lib.hid (HI7.out.step HV.out HU.out hgrow6 hown6 hat6); have HEB8 := Lib.hid s6; clear hown6 hgrow6 hat6 hlt6 s6)) | go_simp); refine hK.out _ _ ?_ (fun hHeld => ?_); (try dsimp only); (first | (refine ⟨?_, ?_, ?_⟩ <;> first | assumption | exact cell_set_far (by assumption) hne1 | exact cell_set_far (by assumption) hne2 | go_keep)); clear hK K; try simp only [List.getElem_toArray, List.getElem_cons_zero, List.getElem_cons_succ, Act.put, List.setIfInBounds_toArray, List.set_cons_zero, List.set_cons_succ]
          refine wpAnyH_ready (rs := [13]) (by kernel_rfl) (by simp) (AllReadyH.cons rfl (fun K hK => ?_) AllReadyH.nil)
          (first | (first | (refine step_append_lies _ (by rfl) _ _ _ (by rfl) (w.heap.size + 2) 3 i0 _ 1 8 Try.underlying30 hi hz0 hz1 hz2 rfl (by omega) (.slice A1 u.length c1) u.length (ints u) (by rfl) ((HO.out.alloc _).drew) ⟨wc.heap.size, 0, none⟩ 1 1 [.int .i64 p] (by rfl) (by rfl) (World.news_of_block (cs := #[.int .i64 p]) (t := 3) (fr := (0, 0)) (heap_alloc_new wc _)) (by simp [Value.oneCell']) (by omega) (by unfold maxLen; omega) (by omega) (by have := HI7.out.low.size; have := HI7.out.near.lt; have := HI7.out.near.low; simp; omega) (wc.heap.size + 1) (by simp) ?_; intro g6 cap6 w6 hown6 hgrow6 hat6 hlt6; obtain ⟨s1, s2, s3, s4, s5, s6⟩ := HI7.out.after HV.out HU.out HEB7.out hgrow6; have HI8 := Lib.hid (HI7.out.step HV.out HU.out hgrow6 hown6 hat6); have HEB8 := Lib.hid s6; clear hown6 hgrow6 hat6 hlt6 s6)) | go_simp); refine hK.out _ _ ?_ (fun hHeld => ?_); (try dsimp only); (first | (refine ⟨?_, ?_, ?_⟩ <;> first | assumption | exact cell_set_far (by assumption) hne1 | exact cell_set_far (by assumption) hne2 | go_keep)); clear hK K; try simp only [List.getElem_toArray, List.getElem_cons_zero, List.getElem_cons_succ, Act.put, List.setIfInBounds_toArray, List.set_cons_zero, List.set_cons_succ]
          refine wpAnyH_ready (rs := [14]) (by kernel_rfl) (by simp) (AllReadyH.cons rfl (fun K hK => ?_) AllReadyH.nil)
          (first | (first | (refine step_append_lies _ (by rfl) _ _ _ (by rfl) (w.heap.size + 2) 3 i0 _ 1 8 Try.underlying30 hi hz0 hz1 hz2 rfl (by omega) (.slice A1 u.length c1) u.length (ints u) (by rfl) ((HO.out.alloc _).drew) ⟨wc.heap.size, 0, none⟩ 1 1 [.int .i64 p] (by rfl) (by rfl) (World.news_of_block (cs := #[.int .i64 p]) (t := 3) (fr := (0, 0)) (heap_alloc_new wc _)) (by simp [Value.oneCell']) (by omega) (by unfold maxLen; omega) (by omega) (by have := HI7.out.low.size; have := HI7.out.near.lt; have := HI7.out.near.low; simp; omega) (wc.heap.size + 1) (by simp) ?_; intro g6 cap6 w6 hown6 hgrow6 hat6 hlt6; obtain ⟨s1, s2, s3, s4, s5, s6⟩ := HI7.out.after HV.out HU.out HEB7.out hgrow6; have HI8 := Lib.hid (HI7.out.step HV.out HU.out hgrow6 hown6 hat6); have HEB8 := Lib.hid s6; clear hown6 hgrow6 hat6 hlt6 s6)) | go_simp); refine hK.out _ _ ?_ (fun hHeld => ?_); (try dsimp only); (first | (refine ⟨?_, ?_, ?_⟩ <;> first | assumption | exact cell_set_far (by assumption) hne1 | exact cell_set_far (by assumption) hne2 | go_keep)); clear hK K; try simp only [List.getElem_toArray, List.getElem_cons_zero, List.getElem_cons_succ, Act.put, List.setIfInBounds_toArray, List.set_cons_zero, List.set_cons_succ]
          refine wpAnyH_ready (rs := [15]) (by kernel_rfl) (by simp) (AllReadyH.cons rfl (fun K hK => ?_) AllReadyH.nil)
          (first | (first | (refine step_append_lies _ (by rfl) _ _ _ (by rfl) (w.heap.size + 2) 3 i0 _ 1 8 Try.underlying30 hi hz0 hz1 hz2 rfl (by omega) (.slice A1 u.length c1) u.length (ints u) (by rfl) ((HO.out.alloc _).drew) ⟨wc.heap.size, 0, none⟩ 1 1 [.int .i64 p] (by rfl) (by rfl) (World.news_of_block (cs := #[.int .i64 p]) (t := 3) (fr := (0, 0)) (heap_alloc_new wc _)) (by simp [Value.oneCell']) (by omega) (by unfold maxLen; omega) (by omega) (by have := HI7.out.low.size; have := HI7.out.near.lt; have := HI7.out.near.low; simp; omega) (wc.heap.size + 1) (by simp) ?_; intro g6 cap6 w6 hown6 hgrow6 hat6 hlt6; obtain ⟨s1, s2, s3, s4, s5, s6⟩ := HI7.out.after HV.out HU.out HEB7.out hgrow6; have HI8 := Lib.hid (HI7.out.step HV.out HU.out hgrow6 hown6 hat6); have HEB8 := Lib.hid s6; clear hown6 hgrow6 hat6 hlt6 s6)) | go_simp); refine hK.out _ _ ?_ (fun hHeld => ?_); (try dsimp only); (first | (refine ⟨?_, ?_, ?_⟩ <;> first | assumption | exact cell_set_far (by assumption) hne1 | exact cell_set_far (by assumption) hne2 | go_keep)); clear hK K; try simp only [List.getElem_toArray, List.getElem_cons_zero, List.getElem_cons_succ, Act.put, List.setIfInBounds_toArray, List.set_cons_zero, List.set_cons_succ]
          refine wpAnyH_done (by kernel_rfl) ?_ _
          rotate_left
          (first | (first | (refine step_append_lies _ (by rfl) _ _ _ (by rfl) (w.heap.size + 2) 3 i0 _ 1 8 Try.underlying30 hi hz0 hz1 hz2 rfl (by omega) (.slice A1 u.length c1) u.length (ints u) (by rfl) ((HO.out.alloc _).drew) ⟨wc.heap.size, 0, none⟩ 1 1 [.int .i64 p] (by rfl) (by rfl) (World.news_of_block (cs := #[.int .i64 p]) (t := 3) (fr := (0, 0)) (heap_alloc_new wc _)) (by simp [Value.oneCell']) (by omega) (by unfold maxLen; omega) (by omega) (by have := HI7.out.low.size; have := HI7.out.near.lt; have := HI7.out.near.low; simp; omega) (wc.heap.size + 1) (by simp) ?_; intro g6 cap6 w6 hown6 hgrow6 hat6 hlt6; obtain ⟨s1, s2, s3, s4, s5, s6⟩ := HI7.out.after HV.out HU.out HEB7.out hgrow6; have HI8 := Lib.hid (HI7.out.step HV.out HU.out hgrow6 hown6 hat6); have HEB8 := Lib.hid s6; clear hown6 hgrow6 hat6 hlt6 s6)) | go_simp); refine hK.out _ _ ?_ (fun hHeld => ?_); (try dsimp only); (first | (refine ⟨?_, ?_, ?_⟩ <;> first | assumption | exact cell_set_far (by assumption) hne1 | exact cell_set_far (by assumption) hne2 | go_keep)); clear hK K; try simp only [List.getElem_toArray, List.getElem_cons_zero, List.getElem_cons_succ, Act.put, List.setIfInBounds_toArray, List.set_cons_zero, List.set_cons_succ]
          refine wpAnyH_ready (rs := [9]) (by kernel_rfl) (by simp) (AllReadyH.cons rfl (fun K hK => ?_) AllReadyH.nil)
          (first | (first | (refine step_append_lies _ (by rfl) _ _ _ (by rfl) (w.heap.size + 2) 3 i0 _ 1 8 Try.underlying30 hi hz0 hz1 hz2 rfl (by omega) (.slice A1 u.length c1) u.length (ints u) (by rfl) ((HO.out.alloc _).drew) ⟨wc.heap.size, 0, none⟩ 1 1 [.int .i64 p] (by rfl) (by rfl) (World.news_of_block (cs := #[.int .i64 p]) (t := 3) (fr := (0, 0)) (heap_alloc_new wc _)) (by simp [Value.oneCell']) (by omega) (by unfold maxLen; omega) (by omega) (by have := HI7.out.low.size; have := HI7.out.near.lt; have := HI7.out.near.low; simp; omega) (wc.heap.size + 1) (by simp) ?_; intro g6 cap6 w6 hown6 hgrow6 hat6 hlt6; obtain ⟨s1, s2, s3, s4, s5, s6⟩ := HI7.out.after HV.out HU.out HEB7.out hgrow6; have HI8 := Lib.hid (HI7.out.step HV.out HU.out hgrow6 hown6 hat6); have HEB8 := Lib.hid s6; clear hown6 hgrow6 hat6 hlt6 s6)) | go_simp); refine hK.out _ _ ?_ (fun hHeld => ?_); (try dsimp only); (first | (refine ⟨?_, ?_, ?_⟩ <;> first | assumption | exact cell_set_far (by assumption) hne1 | exact cell_set_far (by assumption) hne2 | go_keep)); clear hK K; try simp only [List.getElem_toArray, List.getElem_cons_zero, List.getElem_cons_succ, Act.put, List.setIfInBounds_toArray, List.set_cons_zero, List.set_cons_succ]
          refine wpAnyH_ready (rs := [13]) (by kernel_rfl) (by simp) (AllReadyH.cons rfl (fun K hK => ?_) AllReadyH.nil)
          (first | (first | (refine step_append_lies _ (by rfl) _ _ _ (by rfl) (w.heap.size + 2) 3 i0 _ 1 8 Try.underlying30 hi hz0 hz1 hz2 rfl (by omega) (.slice A1 u.length c1) u.length (ints u) (by rfl) ((HO.out.alloc _).drew) ⟨wc.heap.size, 0, none⟩ 1 1 [.int .i64 p] (by rfl) (by rfl) (World.news_of_block (cs := #[.int .i64 p]) (t := 3) (fr := (0, 0)) (heap_alloc_new wc _)) (by simp [Value.oneCell']) (by omega) (by unfold maxLen; omega) (by omega) (by have := HI7.out.low.size; have := HI7.out.near.lt; have := HI7.out.near.low; simp; omega) (wc.heap.size + 1) (by simp) ?_; intro g6 cap6 w6 hown6 hgrow6 hat6 hlt6; obtain ⟨s1, s2, s3, s4, s5, s6⟩ := HI7.out.after HV.out HU.out HEB7.out hgrow6; have HI8 := Lib.hid (HI7.out.step HV.out HU.out hgrow6 hown6 hat6); have HEB8 := Lib.hid s6; clear hown6 hgrow6 hat6 hlt6 s6)) | go_simp); refine hK.out _ _ ?_ (fun hHeld => ?_); (try dsimp only); (first | (refine ⟨?_, ?_, ?_⟩ <;> first | assumption | exact cell_set_far (by assumption) hne1 | exact cell_set_far (by assumption) hne2 | go_keep)); clear hK K; try simp only [List.getElem_toArray, List.getElem_cons_zero, List.getElem_cons_succ, Act.put, List.setIfInBounds_toArray, List.set_cons_zero, List.set_cons_succ]
          refine wpAnyH_ready (rs := [14]) (by kernel_rfl) (by simp) (AllReadyH.cons rfl (fun K hK => ?_) AllReadyH.nil)
          (first | (first | (refine step_append_lies _ (by rfl) _ _ _ (by rfl) (w.heap.size + 2) 3 i0 _ 1 8 Try.underlying30 hi hz0 hz1 hz2 rfl (by omega) (.slice A1 u.length c1) u.length (ints u) (by rfl) ((HO.out.alloc _).drew) ⟨wc.heap.size, 0, none⟩ 1 1 [.int .i64 p] (by rfl) (by rfl) (World.news_of_block (cs := #[.int .i64 p]) (t := 3) (fr := (0, 0)) (heap_alloc_new wc _)) (by simp [Value.oneCell']) (by omega) (by unfold maxLen; omega) (by omega) (by have := HI7.out.low.size; have := HI7.out.near.lt; have := HI7.out.near.low; simp; omega) (wc.heap.size + 1) (by simp) ?_; intro g6 cap6 w6 hown6 hgrow6 hat6 hlt6; obtain ⟨s1, s2, s3, s4, s5, s6⟩ := HI7.out.after HV.out HU.out HEB7.out hgrow6; have HI8 := Lib.hid (HI7.out.step HV.out HU.out hgrow6 hown6 hat6); have HEB8 := Lib.hid s6; clear hown6 hgrow6 hat6 hlt6 s6)) | go_simp); refine hK.out _ _ ?_ (fun hHeld => ?_); (try dsimp only); (first | (refine ⟨?_, ?_, ?_⟩ <;> first | assumption | exact cell_set_far (by assumption) hne1 | exact cell_set_far (by assumption) hne2 | go_keep)); clear hK K; try simp only [List.getElem_toArray, List.getElem_cons_zero, List.getElem_cons_succ, Act.put, List.setIfInBounds_toArray, List.set_cons_zero, List.set_cons_succ]
          refine wpAnyH_ready (rs := [15]) (by kernel_rfl) (by simp) (AllReadyH.cons rfl (fun K hK => ?_) AllReadyH.nil)
          (first | (first | (refine step_append_lies _ (by rfl) _ _ _ (by rfl) (w.heap.size + 2) 3 i0 _ 1 8 Try.underlying30 hi hz0 hz1 hz2 rfl (by omega) (.slice A1 u.length c1) u.length (ints u) (by rfl) ((HO.out.alloc _).drew) ⟨wc.heap.size, 0, none⟩ 1 1 [.int .i64 p] (by rfl) (by rfl) (World.news_of_block (cs := #[.int .i64 p]) (t := 3) (fr := (0, 0)) (heap_alloc_new wc _)) (by simp [Value.oneCell']) (by omega) (by unfold maxLen; omega) (by omega) (by have := HI7.out.low.size; have := HI7.out.near.lt; have := HI7.out.near.low; simp; omega) (wc.heap.size + 1) (by simp) ?_; intro g6 cap6 w6 hown6 hgrow6 hat6 hlt6; obtain ⟨s1, s2, s3, s4, s5, s6⟩ := HI7.out.after HV.out HU.out HEB7.out hgrow6; have HI8 := Lib.hid (HI7.out.step HV.out HU.out hgrow6 hown6 hat6); have HEB8 := Lib.hid s6; clear hown6 hgrow6 hat6 hlt6 s6)) | go_simp); refine hK.out _ _ ?_ (fun hHeld => ?_); (try dsimp only); (first | (refine ⟨?_, ?_, ?_⟩ <;> first | assumption | exact cell_set_far (by assumption) hne1 | exact cell_set_far (by assumption) hne2 | go_keep)); clear hK K; try simp only [List.getElem_toArray, List.getElem_cons_zero, List.getElem_cons_succ, Act.put, List.setIfInBounds_toArray, List.set_cons_zero, List.set_cons_succ]
          refine wpAnyH_done (by kernel_rfl) ?_ _
          rotate_left
          all_goals go_wp2_with fail
          all_goals
            go_roundw
            case rel => exact ⟨k + 1, _, by go_num, by omega, by rw [← HTT.out, HUU.out]; exact HI8.out⟩
            case measure => simp [intOf]; omega
      · obtain rfl : k = es.length := by omega
        rw [show nbRows N es es.length = tab N (fun v => nbL es v) by simp [nbRows]] at HI
        go_wp2_with fail
        clear p0 p1 q0 q1
        go_loopw [56] (fun i wq => ∃ m : Nat, i = .int .i64 m ∧ m ≤ N ∧ Hid (Below wr.heap.size wr wq)) (fun i _ => N - (intOf i).toNat)
        case atStart => exact ⟨0, rfl, Nat.zero_le _, Below.refl _ _⟩
        case round =>

          obtain ⟨m, rfl, hmN, HB⟩ := hrel
          have HJ := Lib.hid (HI.out.below HB.out)
          obtain ⟨q0, q1, _, _⟩ := cells2 HJ.out.hp
          by_cases hlt2 : m < N
          · obtain ⟨A1, c1, u, hv, hu, hown, hsl⟩ := HJ.out.near.int hlt2
            rw [tab_get _ hlt2] at hu
            injection hu with hu
            have e0 := HJ.out.near.cell hv
            have hul := nbL_len es m
            rw [hu] at hul
            have HS := Lib.hid (show u.Pairwise (· ≤ ·) from hu ▸ (nbL_sorted HRT.out m).imp fun h => by omega)
            have HO := Lib.hid hown
            clear hv hu hown hsl
            go_wp2_with ((go_at_call 61; refine (SortI_sorted _ A1 u.length c1 u (w.heap.size + 2) HO.out HS.out (by omega)).mono ?_; rintro e w' ⟨rfl, hb'⟩; have HB' := Lib.hid hb'; clear hb'))
            go_roundw
            case rel => exact ⟨m + 1, by go_num, by omega, below_join HB.out HB'.out⟩
            case measure => simp [intOf]; omega
          · obtain ⟨z1, z2, z3, z4, z5⟩ := two_sets HJ.out.res (.slice (some ⟨gn, 0, none⟩) N N) (.slice (some ⟨gg, 0, none⟩) N N)
            obtain ⟨r0, r1, _, _⟩ := cells2 z5
            go_wp2_with fail
            refine bodyPost_ret (v := restV N gn N gg N) (by simp [results, Try.results52, go_sem, r0, r1, restV]) rfl ?_
            have hrows : (tab N fun v => nbL es v) = rowsP N (beginS N es) := tab_congr fun i hi => by
              rw [nbL_near HRT.out i]; simp [beginS, hi]
            have hgone : (tab N fun _ => Value.bool false) = tab N fun x => Value.bool (!(beginS N es).inn x) := tab_congr fun i hi => by simp [beginS, hi]
            have hnear := (HJ.out.near.mono (by omega : w.heap.size ≤ w.heap.size + 2))
            rw [hrows] at hnear
            have hgn := own_mono HJ.out.gone (by omega : w.heap.size ≤ w.heap.size + 2)
            rw [hgone] at hgn
            have hrp : RestP _ w.heap.size N (beginS N es) gn N gg N vs := ⟨hnear, hgn, Nat.le_refl _, by omega⟩
            refine ⟨gn, N, gg, N, vs, rfl, (hrp.aside HJ.out.res (by decide) (by decide) (by decide)).aside (heap_setCell (cs := [.slice none 0 0, .slice none 0 0]) HJ.out.res _) (by decide) (by decide) (by decide), ?_⟩
            exact (HJ.out.low.setCell (by simp) _).setCell (by simp) _
end Go.Proofs.Ytcbojlidfabgeaa
