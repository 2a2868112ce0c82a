/- Words on worlds: a block of rows, each row owned, no two in one block. Conditions: none. -/
import Derived.Test.YtcbojlidfabgeaaB
namespace Go.Proofs.Ytcbojlidfabgeaa
open Go.RowKit
set_option linter.unusedVariables false
set_option linter.unusedSimpArgs false

structure Rows2 (w : World) (base g et ot n : Nat) (vs : List Value) (rows : List (List Value)) : Prop where
  low : base ≤ g
  outer : ∃ tl : List Value, w.heap[g]? = some (.cells (vs ++ tl).toArray ot (0, 0))
  lv : vs.length = n
  lr : rows.length = n
  row : ∀ (i : Nat) (v : Value) (xs : List Value), vs[i]? = some v → rows[i]? = some xs → w.ownsRow base et 1 v xs.length xs
  apart : ∀ (i j : Nat) (v v' : Value), i ≠ j → vs[i]? = some v → vs[j]? = some v' → v.ownBlock = none ∨ v.ownBlock ≠ v'.ownBlock
  ne : et ≠ ot

section
variable {w : World} {base g et ot n : Nat} {vs : List Value} {rows : List (List Value)}

theorem Rows2.lt (h : Rows2 w base g et ot n vs rows) : g < w.heap.size := by
  obtain ⟨tl, ht⟩ := h.outer
  exact (Array.getElem?_eq_some_iff.1 ht).1
theorem cells_cell {w : World} {g : Nat} {cs : List Value} {e : TypeId} (h : w.heap[g]? = some (.cells cs.toArray e (0, 0))) (i : Nat) : w.cell? ⟨g, i, none⟩ = cs[i]? := by
  rw [cell_of_row w g i cs.toArray e (0, 0) h]; simp
theorem Rows2.cell (h : Rows2 w base g et ot n vs rows) {i : Nat} {v : Value} (hv : vs[i]? = some v) : w.cell? ⟨g, i, none⟩ = some v := by
  obtain ⟨tl, ht⟩ := h.outer
  rw [cells_cell ht, List.getElem?_append_left (List.getElem?_eq_some_iff.1 hv).1, hv]
theorem Rows2.frozen (h : Rows2 w base g et ot n vs rows) (i : Nat) : w.frozen? ⟨g, i, none⟩ = false := by
  obtain ⟨tl, ht⟩ := h.outer
  exact frozen_of_row w g i _ ot ht
/-- The row i: its value and its numbers. -/
theorem Rows2.get (h : Rows2 w base g et ot n vs rows) {i : Nat} (hi : i < n) : ∃ v xs, vs[i]? = some v ∧ rows[i]? = some xs ∧ w.ownsRow base et 1 v xs.length xs := by
  have h1 : vs[i]? = some (vs[i]'(by have := h.lv; omega)) := List.getElem?_eq_getElem _
  have h2 : rows[i]? = some (rows[i]'(by have := h.lr; omega)) := List.getElem?_eq_getElem _
  exact ⟨_, _, h1, h2, h.row i _ _ h1 h2⟩
theorem Rows2.below {w' : World} (h : Rows2 w base g et ot n vs rows) (hb : Below w.heap.size w w') : Rows2 w' base g et ot n vs rows := by
  obtain ⟨tl, ht⟩ := h.outer
  exact ⟨h.low, ⟨tl, (hb.block g h.lt).trans ht⟩, h.lv, h.lr, fun i v xs hv hx => own_below (h.row i v xs hv hx) hb, h.apart, h.ne⟩
/-- A row lies in another block than the outer one. -/
theorem Rows2.far (h : Rows2 w base g et ot n vs rows) {base' : Nat} {v : Value} {xs : List Value} {m : Nat} (hv : w.ownsRow base' et 1 v m xs) : v.ownBlock ≠ some g := by
  intro hk
  obtain ⟨tl, ht⟩ := h.outer
  rcases hv.2 with ⟨rfl, _⟩ | ⟨g', cap, cur, rfl, _, hh, _⟩
  · simp [Value.ownBlock] at hk
  · have : g' = g := by simpa [Value.ownBlock] using hk
    subst this
    rw [hh] at ht
    injection ht with ht
    injection ht with _ h2
    exact h.ne h2
theorem heap_setCell {w : World} {g i : Nat} {cs : List Value} {e : TypeId} (h : w.heap[g]? = some (.cells cs.toArray e (0, 0))) (v : Value) : (w.setCell ⟨g, i, none⟩ v).heap[g]? = some (.cells (cs.set i v).toArray e (0, 0)) := by
  have := heap_setCell_same w g i cs.toArray e v h
  rw [this]; simp
/-- Behind a change of the row i, whose value is laid back. -/
theorem Rows2.write (h : Rows2 w base g et ot n vs rows) {i : Nat} {v : Value} {xs : List Value} (hv : vs[i]? = some v) (hx : rows[i]? = some xs) {w1 : World} (hg : w.grownBy w1 v.ownBlock) {v' : Value} {xs' : List Value}
    (hown : w1.ownsRow base et 1 v' xs'.length xs') (hat : v'.ownBlock = none ∨ v'.ownBlock = v.ownBlock ∨ ∃ k, v'.ownBlock = some k ∧ w.heap.size ≤ k) : Rows2 (w1.setCell ⟨g, i, none⟩ v') base g et ot n (vs.set i v') (rows.set i xs') := by
  obtain ⟨tl, ht⟩ := h.outer
  have hrow := h.row i v xs hv hx
  have hfar := h.far hrow
  have hil : i < vs.length := (List.getElem?_eq_some_iff.1 hv).1
  have hg1 : w1.heap[g]? = some (.cells (vs ++ tl).toArray ot (0, 0)) := (hg.block g h.lt (Ne.symm hfar)).trans ht
  have hset := heap_setCell (i := i) hg1 v'
  rw [List.set_append_left _ _ hil] at hset
  have hgs : w1.grownBy (w1.setCell ⟨g, i, none⟩ v') (some g) := ⟨rfl, rfl, rfl, by simp, fun k hk hk' => heap_setCell_other w1 ⟨g, i, none⟩ k v' (fun e => hk' (by simp [e]))⟩
  have hfar1 : ∀ {u : Value} {m : Nat} {zs : List Value}, w1.ownsRow base et 1 u m zs → u.ownBlock ≠ some g := by
    intro u m zs hu hk
    rcases hu.2 with ⟨rfl, _⟩ | ⟨g', cap, cur, rfl, _, hh, _⟩
    · simp [Value.ownBlock] at hk
    · have : g' = g := by simpa [Value.ownBlock] using hk
      subst this
      rw [hh] at hg1
      injection hg1 with ht
      injection ht with _ h2
      exact h.ne h2
  have hap : ∀ j u, j ≠ i → vs[j]? = some u → u.ownBlock = none ∨ u.ownBlock ≠ v'.ownBlock := by
    intro j u hj hu
    rcases hat with h0 | h0 | ⟨k, h0, hk⟩
    · rcases hu' : u.ownBlock with _ | b
      · exact .inl rfl
      · right; rw [h0]; simp
    · rw [h0]; exact h.apart j i u v hj hu hv
    · right
      rw [h0]
      intro hk'
      obtain ⟨ys, hy⟩ : ∃ ys, rows[j]? = some ys := ⟨_, List.getElem?_eq_getElem (by have := (List.getElem?_eq_some_iff.1 hu).1; have := h.lv; have := h.lr; omega)⟩
      have := (h.row j u ys hu hy).lt k hk'
      omega
  refine ⟨h.low, ⟨tl, hset⟩, by simpa using h.lv, by simpa using h.lr, ?_, ?_, h.ne⟩
  · intro j u ys hu hy
    by_cases hj : j = i
    · subst hj
      rw [List.getElem?_set_self (by have := h.lv; omega)] at hu
      rw [List.getElem?_set_self (by have := h.lr; have := h.lv; omega)] at hy
      injection hu with hu; injection hy with hy
      subst hu; subst hy
      exact hown.kept hgs (.inr (hfar1 hown))
    · rw [List.getElem?_set_ne (Ne.symm hj)] at hu hy
      have h1 : w1.ownsRow base et 1 u ys.length ys := (h.row j u ys hu hy).kept hg (h.apart j i u v hj hu hv)
      exact h1.kept hgs (.inr (hfar1 h1))
  · intro a b u u' hab hu hu'
    by_cases ha : a = i
    · subst ha
      rw [List.getElem?_set_self (by omega)] at hu
      injection hu with hu; subst hu
      rw [List.getElem?_set_ne hab] at hu'
      rcases hap b u' (Ne.symm hab) hu' with h1 | h1
      · rcases hv' : v'.ownBlock with _ | k
        · exact .inl rfl
        · right; rw [h1]; simp
      · exact .inr (Ne.symm h1)
    · rw [List.getElem?_set_ne (Ne.symm ha)] at hu
      by_cases hb : b = i
      · subst hb
        rw [List.getElem?_set_self (by omega)] at hu'
        injection hu' with hu'; subst hu'
        exact hap a u ha hu
      · rw [List.getElem?_set_ne (Ne.symm hb)] at hu'
        exact h.apart a b u u' hab hu hu'
/-- The outer cell, behind the change of a row, ahead of the store. -/
theorem Rows2.cell_grown (h : Rows2 w base g et ot n vs rows) {i : Nat} {v : Value} {xs : List Value} (hv : vs[i]? = some v) (hx : rows[i]? = some xs) {w1 : World} (hg : w.grownBy w1 v.ownBlock) {j : Nat} {u : Value} (hu : vs[j]? = some u) :
    w1.cell? ⟨g, j, none⟩ = some u ∧ w1.frozen? ⟨g, j, none⟩ = false := by
  have hfar := h.far (h.row i v xs hv hx)
  exact ⟨by rw [hg.cell_far _ h.lt (Ne.symm hfar)]; exact h.cell hu, by rw [hg.frozen_far _ h.lt (Ne.symm hfar)]; exact h.frozen j⟩
theorem Rows2.int {U : List (List Int)} (h : Rows2 w base g 3 ot n vs (U.map ints)) {i : Nat} (hi : i < n) : ∃ A c u, vs[i]? = some (.slice A u.length c) ∧ U[i]? = some u ∧ w.ownsRow base 3 1 (.slice A u.length c) u.length (ints u) ∧ Sl w A u.length c 1 (ints u) := by
  obtain ⟨v, xs, h1, h2, h3⟩ := h.get hi
  rw [List.getElem?_map] at h2
  obtain ⟨u, hu, rfl⟩ := Option.map_eq_some_iff.1 h2
  rw [ints_length] at h3
  obtain ⟨A, c, rfl, hs⟩ := Sl.of_own h3
  exact ⟨A, c, u, h1, hu, h3, hs⟩
/-- The same, out of the row's list and its place. -/
theorem Rows2.row' {U : List (List Int)} (h : Rows2 w base g 3 ot n vs (U.map ints)) {i : Nat} {u : List Int} (hu : U[i]? = some u) : (U.map ints)[i]? = some (ints u) := by rw [List.getElem?_map, hu]; rfl
end

/-- Two owned rows of two types lie in two blocks. -/
theorem own_type_ne {w : World} {b b' : Nat} {e e' : TypeId} {s s' n n' : Nat} {v v' : Value} {xs xs' : List Value} (h : w.ownsRow b e s v n xs) (h' : w.ownsRow b' e' s' v' n' xs') (hne : e ≠ e') : v.ownBlock = none ∨ v.ownBlock ≠ v'.ownBlock := by
  rcases h.2 with ⟨rfl, _⟩ | ⟨g, cap, cur, rfl, _, hh, _⟩
  · exact .inl rfl
  · refine .inr fun hk => ?_
    rcases h'.2 with ⟨rfl, _⟩ | ⟨g', cap', cur', rfl, _, hh', _⟩
    · simp [Value.ownBlock] at hk
    · have : g = g' := by simpa [Value.ownBlock] using hk
      subst this
      rw [hh] at hh'
      injection hh' with hh'
      injection hh' with _ ht
      exact hne ht
theorem own_block_ne {w : World} {b : Nat} {e t : TypeId} {s n g : Nat} {v : Value} {xs : List Value} {cs : Array Value} {fr : Nat × Nat} (h : w.ownsRow b e s v n xs) (hh : w.heap[g]? = some (.cells cs t fr)) (hne : e ≠ t) : v.ownBlock ≠ some g := by
  intro hk
  rcases h.2 with ⟨rfl, _⟩ | ⟨g', cap, cur, rfl, _, hh', _⟩
  · simp [Value.ownBlock] at hk
  · have : g' = g := by simpa [Value.ownBlock] using hk
    subst this
    rw [hh] at hh'
    injection hh' with hh'
    injection hh' with _ ht
    exact hne ht.symm
theorem grownBy_setCell (w : World) (g i : Nat) (v : Value) : w.grownBy (w.setCell ⟨g, i, none⟩ v) (some g) := ⟨rfl, rfl, rfl, by simp, fun k _ hk' => heap_setCell_other w ⟨g, i, none⟩ k v (fun e => hk' (by simp [e]))⟩
theorem own_setCell {w : World} {b : Nat} {e : TypeId} {s n g i : Nat} {v u : Value} {xs : List Value} (h : w.ownsRow b e s v n xs) (hne : v.ownBlock ≠ some g) : (w.setCell ⟨g, i, none⟩ u).ownsRow b e s v n xs := h.kept (grownBy_setCell w g i u) (.inr hne)
/-- Where an appended row lies. -/
theorem own_lies {B H g : Nat} {v : Value} {n m cap : Nat} (hat : v.ownBlock = some g ∨ g = H) : (Value.slice (some ⟨g, 0, none⟩) m cap).ownBlock = v.ownBlock ∨ (Value.slice (some ⟨g, 0, none⟩) m cap).ownBlock = some H := by
  rcases hat with h | h
  · exact .inl h.symm
  · exact .inr (by rw [h]; rfl)

theorem Sl.of_own' {w : World} {base : Nat} {e : TypeId} {sz n c : Nat} {A : Option Addr} {vs : List Value} (h : w.ownsRow base e sz (.slice A n c) n vs) : Sl w A n c sz vs := by
  obtain ⟨A', c', hv, hs⟩ := Sl.of_own h
  injection hv with h1 h2 h3
  subst h1; subst h3
  exact hs

theorem heap_keep {w W w1 : World} {row : Option Nat} {g : Nat} {x : Obj} (hg : W.grownBy w1 row) (hb : Below w.heap.size w W) (h : w.heap[g]? = some x) (hne : row ≠ some g) : w1.heap[g]? = some x := by
  have hl := (Array.getElem?_eq_some_iff.1 h).1
  rw [hg.block g (Nat.lt_of_lt_of_le hl hb.size) (Ne.symm hne), hb.block g hl, h]
theorem own_keep {w W w1 : World} {row : Option Nat} {base : Nat} {e : TypeId} {sz n : Nat} {v : Value} {vs : List Value} (hg : W.grownBy w1 row) (hb : Below w.heap.size w W) (h : w.ownsRow base e sz v n vs) (hne : v.ownBlock = none ∨ v.ownBlock ≠ row) : w1.ownsRow base e sz v n vs :=
  (own_below h hb).kept hg hne
theorem below_keep {w0 w W w1 : World} {B : Nat} {row : Option Nat} (h : Below B w0 w) (hB : B ≤ w.heap.size) (hg : W.grownBy w1 row) (hb : Below w.heap.size w W) (hr : ∀ k, row = some k → B ≤ k) : Below B w0 w1 :=
  (h.trans (hb.mono hB)).grown hg (Nat.le_trans hB hb.size) hr

theorem cells2 {w : World} {g : Nat} {a b : Value} {t : TypeId} (h : w.heap[g]? = some (.cells #[a, b] t (0, 0))) : w.cell? ⟨g, 0, none⟩ = some a ∧ w.cell? ⟨g, 1, none⟩ = some b ∧ w.frozen? ⟨g, 0, none⟩ = false ∧ w.frozen? ⟨g, 1, none⟩ = false :=
  ⟨by rw [cell_of_row w g 0 _ _ _ h]; rfl, by rw [cell_of_row w g 1 _ _ _ h]; rfl, frozen_of_row w g 0 _ _ h, frozen_of_row w g 1 _ _ h⟩
theorem cells3 {w : World} {g : Nat} {a b c : Value} {t : TypeId} (h : w.heap[g]? = some (.cells #[a, b, c] t (0, 0))) : w.cell? ⟨g, 0, none⟩ = some a ∧ w.cell? ⟨g, 1, none⟩ = some b ∧ w.cell? ⟨g, 2, none⟩ = some c ∧ w.frozen? ⟨g, 0, none⟩ = false ∧ w.frozen? ⟨g, 1, none⟩ = false ∧ w.frozen? ⟨g, 2, none⟩ = false :=
  ⟨by rw [cell_of_row w g 0 _ _ _ h]; rfl, by rw [cell_of_row w g 1 _ _ _ h]; rfl, by rw [cell_of_row w g 2 _ _ _ h]; rfl, frozen_of_row w g 0 _ _ h, frozen_of_row w g 1 _ _ h, frozen_of_row w g 2 _ _ h⟩
theorem cells4 {w : World} {g : Nat} {a b c d : Value} {t : TypeId} (h : w.heap[g]? = some (.cells #[a, b, c, d] t (0, 0))) : w.cell? ⟨g, 0, none⟩ = some a ∧ w.cell? ⟨g, 1, none⟩ = some b ∧ w.cell? ⟨g, 2, none⟩ = some c ∧ w.cell? ⟨g, 3, none⟩ = some d :=
  ⟨by rw [cell_of_row w g 0 _ _ _ h]; rfl, by rw [cell_of_row w g 1 _ _ _ h]; rfl, by rw [cell_of_row w g 2 _ _ _ h]; rfl, by rw [cell_of_row w g 3 _ _ _ h]; rfl⟩

/-- A graph in memory (N, its edges). -/
def GraphAt (w : World) (v : Value) (n : Int) (es : List (Int × Int)) : Prop := ∃ A c, v = .agg #[.int .i64 n, .slice A es.length c] ∧ Sl w A es.length c 2 (edgeCells es)
theorem GraphAt.below {w w' : World} {v : Value} {n : Int} {es : List (Int × Int)} (h : GraphAt w v n es) (hb : Below w.heap.size w w') : GraphAt w' v n es := by
  obtain ⟨A, c, h1, h2⟩ := h
  exact ⟨A, c, h1, h2.below hb⟩
/-- A graph of the call's own. -/
def OwnG (w : World) (base : Nat) (v : Value) (n : Int) (es : List (Int × Int)) : Prop := ∃ A c, v = .agg #[.int .i64 n, .slice A es.length c] ∧ w.ownsRow base 59 2 (.slice A es.length c) es.length (edgeCells es)
theorem OwnG.at' {w : World} {base : Nat} {v : Value} {n : Int} {es : List (Int × Int)} (h : OwnG w base v n es) : GraphAt w v n es := by
  obtain ⟨A, c, h1, h2⟩ := h
  exact ⟨A, c, h1, Sl.of_own' h2⟩
theorem OwnG.below {w w' : World} {base : Nat} {v : Value} {n : Int} {es : List (Int × Int)} (h : OwnG w base v n es) (hb : Below w.heap.size w w') : OwnG w' base v n es := by
  obtain ⟨A, c, h1, h2⟩ := h
  exact ⟨A, c, h1, own_below h2 hb⟩
theorem OwnG.mono {w : World} {base base' : Nat} {v : Value} {n : Int} {es : List (Int × Int)} (h : OwnG w base v n es) (hb : base' ≤ base) : OwnG w base' v n es := by
  obtain ⟨A, c, h1, h2⟩ := h
  exact ⟨A, c, h1, own_mono h2 hb⟩
/-- An owned row stays while a cell below its base is written. -/
theorem own_set_low {w : World} {b : Nat} {e : TypeId} {s n : Nat} {v : Value} {xs : List Value} (h : w.ownsRow b e s v n xs) {a : Addr} (ha : a.block < b) (u : Value) : (w.setCell a u).ownsRow b e s v n xs := ownsRow_setCell_below h ha u

end Go.Proofs.Ytcbojlidfabgeaa
