/- Words on worlds: a cell of a row is written; rows that are appended. Conditions: none. -/
import Derived.Test.YtcbojlidfabgeaaR10
import Derived.Deep.OwnRows
import Derived.Deep.RegionLaw
import Derived.Deep.DeepCutAuto
import Derived.Deep.CutBlock
import Derived.StillTailTactics
namespace Go.Proofs.Ytcbojlidfabgeaa
open Go.RowKit
set_option linter.unusedVariables false
set_option linter.unusedSimpArgs false

theorem Rows2.poke {w : World} {base g et ot n : Nat} {vs : List Value} {rows : List (List Value)} (h : Rows2 w base g et ot n vs rows) {i gr m c : Nat} {xs : List Value} (hv : vs[i]? = some (.slice (some ⟨gr, 0, none⟩) m c)) (hx : rows[i]? = some xs) (j : Nat) (u : Value) :
    Rows2 (w.setCell ⟨gr, j, none⟩ u) base g et ot n vs (rows.set i (xs.set j u)) := by
  obtain ⟨tl, ht⟩ := h.outer
  have hrow := h.row i _ xs hv hx
  have hfar := h.far hrow
  have hne : g ≠ gr := fun e => hfar (by rw [e]; rfl)
  have hm : m = xs.length := by
    rcases hrow.2 with ⟨h0, _⟩ | ⟨g', cap, cur, hv', _⟩
    · cases h0
    · injection hv'
  subst hm
  refine ⟨h.low, ⟨tl, ?_⟩, h.lv, by simpa using h.lr, ?_, h.apart, h.ne⟩
  · rw [heap_setCell_other w ⟨gr, j, none⟩ g u hne]; exact ht
  · intro k v ys hk hy
    by_cases hki : k = i
    · subst hki
      rw [hv] at hk
      injection hk with hk; subst hk
      rw [List.getElem?_set_self (List.getElem?_eq_some_iff.1 hx).1] at hy
      injection hy with hy; subst hy
      rw [List.length_set]
      exact (hrow.stored j u).1
    · rw [List.getElem?_set_ne (Ne.symm hki)] at hy
      have h1 := h.row k v ys hk hy
      refine h1.kept (grownBy_setCell w gr j u) ?_
      exact h.apart k i v _ hki hk hv

/-- Rows that are appended one by one. -/
structure Rows2v (w : World) (base et ot : Nat) (av : Value) (n : Nat) (vs : List Value) (rows : List (List Value)) : Prop where
  own : w.ownsRow base ot 1 av n vs
  lr : rows.length = n
  row : ∀ (i : Nat) (v : Value) (xs : List Value), vs[i]? = some v → rows[i]? = some xs → w.ownsRow base et 1 v xs.length xs
  apart : ∀ (i j : Nat) (v v' : Value), i ≠ j → vs[i]? = some v → vs[j]? = some v' → v.ownBlock = none ∨ v.ownBlock ≠ v'.ownBlock
  ne : et ≠ ot
theorem Rows2v.lv {w : World} {base et ot : Nat} {av : Value} {n : Nat} {vs : List Value} {rows : List (List Value)} (h : Rows2v w base et ot av n vs rows) : vs.length = n := by have := h.own.1; omega
theorem Rows2v.start (w : World) (base et ot : Nat) (ne : et ≠ ot) : Rows2v w base et ot (.slice none 0 0) 0 [] [] :=
  ⟨World.ownsRow_nil _ _ _ _, rfl, fun i v xs h => by simp at h, fun i j v v' _ h => by simp at h, ne⟩
theorem Rows2v.block {w : World} {base et ot : Nat} {n : Nat} {vs : List Value} {rows : List (List Value)} {g c : Nat} (h : Rows2v w base et ot (.slice (some ⟨g, 0, none⟩) n c) n vs rows) : Rows2 w base g et ot n vs rows := by
  obtain ⟨_, cur, hh, hg, hn, hc, hl, ht⟩ := own_open h.own
  refine ⟨hg, ⟨cur.drop n, ?_⟩, h.lv, h.lr, h.row, h.apart, h.ne⟩
  rw [← ht, Nat.mul_one, List.take_append_drop]; exact hh
/-- One row more: made in new memory, the slice of rows grown. -/
theorem Rows2v.snoc {w W w1 : World} {base et ot : Nat} {av av' : Value} {n : Nat} {vs : List Value} {rows : List (List Value)} {v : Value} {xs : List Value} (h : Rows2v w base et ot av n vs rows)
    (hb : Below w.heap.size w W) (hg : W.grownBy w1 av.ownBlock) (hown : w1.ownsRow base ot 1 av' (n + 1) (vs ++ [v])) (hv : W.ownsRow w.heap.size et 1 v xs.length xs) (hbase : base ≤ w.heap.size) :
    Rows2v w1 base et ot av' (n + 1) (vs ++ [v]) (rows ++ [xs]) := by
  have hlv := h.lv
  have havt : ∀ {u : Value} {k : Nat} {zs : List Value} {b : Nat}, W.ownsRow b et 1 u k zs → u.ownBlock = none ∨ u.ownBlock ≠ av.ownBlock := fun hu => own_type_ne hu (own_below h.own hb) h.ne
  refine ⟨hown, by simp [h.lr], ?_, ?_, h.ne⟩
  · intro i u ys hu hy
    by_cases hi : i < n
    · rw [List.getElem?_append_left (by omega)] at hu
      rw [List.getElem?_append_left (by have := h.lr; omega)] at hy
      have h1 := own_below (h.row i u ys hu hy) hb
      exact h1.kept hg (havt h1)
    · rw [List.getElem?_append_right (by omega)] at hu
      rw [List.getElem?_append_right (by have := h.lr; omega)] at hy
      have : i - vs.length = 0 := by
        have := (List.getElem?_eq_some_iff.1 hu).1
        simp at this; omega
      rw [this] at hu
      rw [h.lr, ← hlv, this] at hy
      simp at hu hy
      subst hu; subst hy
      exact own_mono (hv.kept hg (havt hv)) hbase
  · intro i j u u' hij hu hu'
    have old : ∀ (k : Nat) (z : Value), k < n → (vs ++ [v])[k]? = some z → vs[k]? = some z := fun k z hk hz => by rwa [List.getElem?_append_left (by omega)] at hz
    have new : ∀ (k : Nat) (z : Value), ¬ k < n → (vs ++ [v])[k]? = some z → k = n ∧ z = v := fun k z hk hz => by
      rw [List.getElem?_append_right (by omega)] at hz
      have h1 := (List.getElem?_eq_some_iff.1 hz).1
      simp at h1
      have : k - vs.length = 0 := by omega
      rw [this] at hz
      simp at hz
      exact ⟨by omega, hz.symm⟩
    have lowb : ∀ (k : Nat) (z : Value) (b : Nat), vs[k]? = some z → z.ownBlock = some b → b < w.heap.size := fun k z b hz hb' => by
      obtain ⟨ys, hy⟩ : ∃ ys, rows[k]? = some ys := ⟨_, List.getElem?_eq_getElem (by have := (List.getElem?_eq_some_iff.1 hz).1; have := h.lr; omega)⟩
      exact ((h.row k z ys hz hy).lt b hb').2
    by_cases hi : i < n <;> by_cases hj : j < n
    · exact h.apart i j u u' hij (old i u hi hu) (old j u' hj hu')
    · obtain ⟨_, rfl⟩ := new j u' hj hu'
      have h1 := old i u hi hu
      rcases hub : u.ownBlock with _ | b
      · exact .inl rfl
      · right
        intro e
        have := (hv.lt b e.symm).1
        have := lowb i u b h1 hub
        omega
    · obtain ⟨_, rfl⟩ := new i u hi hu
      have h1 := old j u' hj hu'
      rcases hub : u.ownBlock with _ | b
      · exact .inl rfl
      · right
        intro e
        have := (hv.lt b hub).1
        have := lowb j u' b h1 e.symm
        omega
    · obtain ⟨h1, _⟩ := new i u hi hu
      obtain ⟨h2, _⟩ := new j u' hj hu'
      omega
theorem cell_set_far {w : World} {a : Addr} {g i : Nat} {u v : Value} (h : w.cell? a = some v) (hne : a.block ≠ g) : (w.setCell ⟨g, i, none⟩ u).cell? a = some v := by
  have := World.cell?_of_block (w := w) (w' := w.setCell ⟨g, i, none⟩ u) (a := a) (heap_setCell_other w ⟨g, i, none⟩ a.block u hne)
  rw [this]; exact h

end Go.Proofs.Ytcbojlidfabgeaa
