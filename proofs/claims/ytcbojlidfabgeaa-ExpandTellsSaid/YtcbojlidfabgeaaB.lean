/- Words on worlds for this seat: how lists of numbers, edges and rows lie in memory. Conditions: none. -/
import Derived.Test.YtcbojlidfabgeaaProg
import Derived.WalkKit
import Derived.KernelRfl
import Derived.Deep.QuietTactic
import Derived.BigQuiet
import Derived.Lib.Hide
import Derived.WalkLawsBesides
import Derived.WalkSpells
import Derived.Deep.RegionHeld3
import Derived.Deep.AppendLies
import Derived.Laws.CopyOwn
namespace Go.Proofs.Ytcbojlidfabgeaa
open Go.RowKit
set_option linter.unusedVariables false
set_option linter.unusedSimpArgs false

abbrev at_ (b o : Nat) : Addr := ⟨b, o, none⟩

/-- A slice of n elements of sz cells each, at A: it holds the cells vs. -/
structure Sl (w : World) (A : Option Addr) (n c sz : Nat) (vs : List Value) : Prop where
  len : vs.length = n * sz
  cap : n ≤ c
  capm : c ≤ 9223372036854775807
  cells : n = 0 ∨ ∃ b off, A = some ⟨b, off, none⟩ ∧ ∀ j v, vs[j]? = some v → w.cell? ⟨b, off + j, none⟩ = some v

def ints (xs : List Int) : List Value := xs.map (fun x => .int .i64 x)
def edgeCells (es : List (Int × Int)) : List Value := es.flatMap fun e => [.int .i64 e.1, .int .i64 e.2]

@[simp] theorem ints_length (xs : List Int) : (ints xs).length = xs.length := by simp [ints]
theorem ints_get {xs : List Int} {k : Nat} {x : Int} (h : xs[k]? = some x) : (ints xs)[k]? = some (.int .i64 x) := by simp [ints, h]
theorem ints_append (xs ys : List Int) : ints (xs ++ ys) = ints xs ++ ints ys := by simp [ints]
@[simp] theorem edgeCells_length (es : List (Int × Int)) : (edgeCells es).length = es.length * 2 := by
  induction es with
  | nil => rfl
  | cons a l ih => simp [edgeCells] at ih ⊢; omega
theorem edgeCells_append (xs ys : List (Int × Int)) : edgeCells (xs ++ ys) = edgeCells xs ++ edgeCells ys := by simp [edgeCells]
theorem edgeCells_get {es : List (Int × Int)} {k : Nat} {e : Int × Int} (h : es[k]? = some e) : (edgeCells es)[k*2]? = some (.int .i64 e.1) ∧ (edgeCells es)[k*2+1]? = some (.int .i64 e.2) := by
  induction es generalizing k with
  | nil => simp at h
  | cons a l ih =>
    cases k with
    | zero => simp at h; subst h; simp [edgeCells]
    | succ k =>
      simp at h
      have := ih h
      have e1 : (k+1)*2 = k*2+1+1 := by omega
      rw [e1]
      simpa [edgeCells] using this

theorem Sl.below {w w' : World} {A : Option Addr} {n c sz : Nat} {vs : List Value} (h : Sl w A n c sz vs) (hb : Below w.heap.size w w') : Sl w' A n c sz vs := by
  refine ⟨h.len, h.cap, h.capm, ?_⟩
  rcases h.cells with h0 | ⟨b, off, hA, hc⟩
  · exact .inl h0
  · refine .inr ⟨b, off, hA, fun j v hv => ?_⟩
    have h1 := hc j v hv
    rw [hb.cell (World.block_lt_of_cell? w _ h1)]
    exact h1

/-- Where there is an element there is an address. -/
theorem Sl.at' {w : World} {A : Option Addr} {n c sz : Nat} {vs : List Value} (h : Sl w A n c sz vs) (hn : 0 < n) :
    ∃ b off, A = some ⟨b, off, none⟩ ∧ ∀ j v, vs[j]? = some v → w.cell? ⟨b, off + j, none⟩ = some v := by
  rcases h.cells with h0 | h0
  · omega
  · exact h0
theorem Sl.nm {w : World} {A : Option Addr} {n c sz : Nat} {vs : List Value} (h : Sl w A n c sz vs) : n ≤ 9223372036854775807 := Nat.le_trans h.cap h.capm

theorem Sl.of_own {w : World} {base : Nat} {e : TypeId} {sz n : Nat} {v : Value} {vs : List Value} (h : w.ownsRow base e sz v n vs) : ∃ A c, v = .slice A n c ∧ Sl w A n c sz vs := by
  have h1 := h.1
  rcases h.2 with ⟨rfl, rfl⟩ | ⟨g, cap, cur, rfl, hb, hh, h2, h3, h4, h5⟩
  · exact ⟨none, 0, rfl, h1, Nat.le_refl _, by omega, .inl rfl⟩
  · refine ⟨_, cap, rfl, h1, h2, by simpa [maxLen] using h3, .inr ⟨g, 0, rfl, fun j u hu => ?_⟩⟩
    have := h.cellAt (g := g) j (by have := (List.getElem?_eq_some_iff.1 hu).1; omega)
    simpa [hu] using this

/-- A cell of the world ahead, read behind. -/
theorem cell_keep {w w' : World} (hb : Below w.heap.size w w') {a : Addr} {v : Value} (h : w.cell? a = some v) : w'.cell? a = some v := by
  rw [hb.cell (World.block_lt_of_cell? w _ h)]; exact h
theorem below_join {w w1 w2 : World} (h : Below w.heap.size w w1) (k : Below w1.heap.size w1 w2) : Below w.heap.size w w2 := h.trans (k.mono h.size)
theorem below_alloc (w : World) (o : Obj) : Below w.heap.size w (w.alloc o) := (Below.refl _ _).alloc (Nat.le_refl _) _
theorem below_dn {B : Nat} {a w : World} (h : Below B a w) (n : Nat) : Below B a (w.drewN n) := ⟨h.os, h.tape, h.output, h.size, h.block⟩
theorem below_drewN (w : World) (n : Nat) : Below w.heap.size w (w.drewN n) := ⟨rfl, rfl, rfl, Nat.le_refl _, fun _ _ => rfl⟩

theorem own_ne {w : World} {base : Nat} {e : TypeId} {size : Nat} {v : Value} {n : Nat} {xs : List Value} (h : w.ownsRow base e size v n xs) {b : Nat} (hb : b < base) : some b ≠ v.ownBlock := by
  intro hk
  have := h.lt b hk.symm
  omega
theorem grownBy_of_below {w w1 : World} (h : Below w.heap.size w w1) (row : Option Nat) : w.grownBy w1 row := ⟨h.os, h.tape, h.output, h.size, fun i hi _ => h.block i hi⟩
theorem own_below {w w1 : World} {base : Nat} {e : TypeId} {size : Nat} {v : Value} {n : Nat} {xs : List Value} (h : w.ownsRow base e size v n xs) (hb : Below w.heap.size w w1) : w1.ownsRow base e size v n xs := by
  refine ⟨h.1, ?_⟩
  rcases h.2 with h0 | ⟨g, cap, cur, rfl, hg, hh, r⟩
  · exact .inl h0
  · exact .inr ⟨g, cap, cur, rfl, hg, (hb.block g (Array.getElem?_eq_some_iff.1 hh).1).trans hh, r⟩
theorem own_mono {w : World} {base base' : Nat} {e : TypeId} {size : Nat} {v : Value} {n : Nat} {xs : List Value} (h : w.ownsRow base e size v n xs) (hb : base' ≤ base) : w.ownsRow base' e size v n xs := by
  refine ⟨h.1, ?_⟩
  rcases h.2 with h0 | ⟨g, cap, cur, rfl, hg, r⟩
  · exact .inl h0
  · exact .inr ⟨g, cap, cur, rfl, Nat.le_trans hb hg, r⟩
/-- An owned row, out of its whole block. -/
theorem own_mk {w : World} {base : Nat} {e : TypeId} {size g n cap : Nat} {cur : List Value} {xs : List Value} (hh : w.heap[g]? = some (.cells cur.toArray e (0, 0))) (hg : base ≤ g) (hn : n ≤ cap) (hc : cap ≤ maxLen) (hs : cur.length = cap * size) (ht : cur.take (n * size) = xs) :
    w.ownsRow base e size (.slice (some ⟨g, 0, none⟩) n cap) n xs := by
  refine ⟨?_, .inr ⟨g, cap, cur.toArray, rfl, hg, hh, hn, hc, by simpa using hs, by simpa using ht⟩⟩
  rw [← ht, List.length_take, hs]
  exact Nat.min_eq_left (Nat.mul_le_mul_right _ hn)
/-- The whole block of an owned row that is not nil. -/
theorem own_open {w : World} {base : Nat} {e : TypeId} {size g n cap : Nat} {o : Nat} {xs : List Value} (h : w.ownsRow base e size (.slice (some ⟨g, o, none⟩) n cap) n xs) :
    o = 0 ∧ ∃ cur : List Value, w.heap[g]? = some (.cells cur.toArray e (0, 0)) ∧ base ≤ g ∧ n ≤ cap ∧ cap ≤ maxLen ∧ cur.length = cap * size ∧ cur.take (n * size) = xs := by
  rcases h.2 with ⟨h0, _⟩ | ⟨g', cap', cur, hv, hg, hh, h2, h3, h4, h5⟩
  · cases h0
  · injection hv with h6 h7 h8
    injection h6 with h6
    injection h6 with h9 h10 h11
    subst h9; subst h10; subst h8
    exact ⟨rfl, cur.toList, by simpa using hh, hg, h2, h3, by simpa using h4, h5⟩

theorem addr_add (g o j : Nat) : (⟨g, o, none⟩ : Addr).add j = ⟨g, o + j, none⟩ := by unfold Addr.add; split <;> simp_all
/-- 's[l:]' of a []int. -/
theorem slice30_lo (A : Option Addr) (n cap l : Nat) (h : l ≤ n) : ∃ ao : Option Addr, (∀ g o, A = some ⟨g, o, none⟩ → cap ≠ l → ao = some ⟨g, o + l, none⟩) ∧ ∀ (W : World) (i : Int), i = (l : Int) →
    (Instr.slice 30 (.slice A n cap) (some (.int .i64 i)) none none).run Try.prog W = .ok (.slice ao (n - l) (cap - l)) W := by
  refine ⟨if cap = l then A else A.map (·.add l), fun g o hA h => by rw [if_neg h, hA]; simp [Addr.add], ?_⟩
  intro W i hi
  subst hi
  have h1 : (l : Int) ≤ (n : Int) := by omega
  simp [go_sem, h1]
/-- 's[:h]' -/
theorem slice30_hi (A : Option Addr) (n cap h : Nat) (hh : h ≤ cap) : ∃ ao : Option Addr, (∀ g o, A = some ⟨g, o, none⟩ → ao = some ⟨g, o, none⟩) ∧ ∀ (W : World) (i : Int), i = (h : Int) →
    (Instr.slice 30 (.slice A n cap) none (some (.int .i64 i)) none).run Try.prog W = .ok (.slice ao h cap) W := by
  refine ⟨if cap = 0 then A else A.map (·.add 0), fun g o hA => by rw [hA]; simp [Addr.add], ?_⟩
  intro W i hi
  subst hi
  have h1 : (h : Int) ≤ (cap : Int) := by omega
  simp [go_sem, h1]
/-- 's[l:h]' -/
theorem slice30_lh (A : Option Addr) (n cap l h : Nat) (hl : l ≤ h) (hh : h ≤ cap) : ∃ ao : Option Addr, (∀ g o, A = some ⟨g, o, none⟩ → cap ≠ l → ao = some ⟨g, o + l, none⟩) ∧ ∀ (W : World) (i j : Int), i = (l : Int) → j = (h : Int) →
    (Instr.slice 30 (.slice A n cap) (some (.int .i64 i)) (some (.int .i64 j)) none).run Try.prog W = .ok (.slice ao (h - l) (cap - l)) W := by
  refine ⟨if cap = l then A else A.map (·.add l), fun g o hA h => by rw [if_neg h, hA]; simp [Addr.add], ?_⟩
  intro W i j hi hj
  subst hi; subst hj
  have h1 : (l : Int) ≤ (h : Int) := by omega
  have h2 : (h : Int) ≤ (cap : Int) := by omega
  simp [go_sem, h1, h2]

end Go.Proofs.Ytcbojlidfabgeaa
