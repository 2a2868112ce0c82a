/- Plain law: the rows of neighbours that the program keeps, when a vertex goes; and the rest in memory by rows. Conditions: a table that is the same both ways round. -/
import Derived.Test.YtcbojlidfabgeaaH7
import Derived.Test.YtcbojlidfabgeaaH8
namespace Go.Proofs.Ytcbojlidfabgeaa
open Go.RowKit
set_option linter.unusedVariables false
set_option linter.unusedSimpArgs false

structure SymS (s : St) : Prop where
  sym : ∀ x y, s.adj x y = s.adj y x
  irr : ∀ x, s.adj x x = false
theorem minusL_mem {u : List Int} {x z : Int} : z ∈ minusL u x ↔ z ∈ u ∧ z ≠ x := by simp [minusL]
theorem plusL_mem {u : List Int} {x z : Int} : z ∈ plusL u x ↔ z = x ∨ z ∈ u := by
  simp only [plusL, List.mem_append, List.mem_filter, List.mem_cons, decide_eq_true_eq, Bool.not_eq_true', decide_eq_false_iff_not]
  constructor
  · rintro (h | h | h)
    · exact .inr h.1
    · exact .inl h
    · exact .inr h.1
  · rintro (h | h)
    · exact .inr (.inl h)
    · by_cases hz : z < x
      · exact .inl ⟨h, hz⟩
      · exact .inr (.inr ⟨h, hz⟩)
theorem minusL_sorted {u : List Int} (h : u.Pairwise (· < ·)) (x : Int) : (minusL u x).Pairwise (· < ·) := h.filter _
theorem minusL_len (u : List Int) (x : Int) : (minusL u x).length ≤ u.length := List.length_filter_le _ _
theorem plusL_sorted {u : List Int} (h : u.Pairwise (· < ·)) {x : Int} (hx : x ∉ u) : (plusL u x).Pairwise (· < ·) := by
  unfold plusL
  rw [List.pairwise_append]
  refine ⟨h.filter _, ?_, ?_⟩
  · rw [List.pairwise_cons]
    refine ⟨?_, h.filter _⟩
    intro y hy
    simp only [List.mem_filter, Bool.not_eq_true', decide_eq_false_iff_not] at hy
    have : y ≠ x := fun e => hx (e ▸ hy.1)
    omega
  · intro a ha b hb
    simp only [List.mem_filter, decide_eq_true_eq] at ha
    simp only [List.mem_cons, List.mem_filter, Bool.not_eq_true', decide_eq_false_iff_not] at hb
    rcases hb with rfl | hb
    · exact ha.2
    · omega
/-- The rows behind the loop: those of v's neighbours without v. -/
def rowsMinus (N : Nat) (s : St) (v : Nat) (L : List Int) (y : Nat) : List Int := if (y : Int) ∈ L then minusL (rowOf N s y) v else rowOf N s y
theorem rowsMinus_sorted (N : Nat) (s : St) (v : Nat) (L : List Int) (y : Nat) : (rowsMinus N s v L y).Pairwise (· < ·) := by
  unfold rowsMinus
  split
  · exact minusL_sorted (rowOf_sorted N s y) _
  · exact rowOf_sorted N s y
theorem rowsMinus_len (N : Nat) (s : St) (v : Nat) (L : List Int) (y : Nat) : (rowsMinus N s v L y).length ≤ N := by
  unfold rowsMinus
  have := rowOf_len N s y
  split
  · have := minusL_len (rowOf N s y) v; omega
  · exact this
section
variable {N : Nat} {s : St} {v : Nat}
theorem rowOf_nat {z : Int} {y : Nat} (h : z ∈ rowOf N s y) : ∃ x : Nat, z = x ∧ x < N := by
  obtain ⟨_, x, h1, h2, _⟩ := rowOf_mem.1 h
  exact ⟨x, h1, h2⟩
theorem rowsMinus_mem (hs : SymS s) (hin : s.inn v = true) (hv : v < N) {y : Nat} (hy : y < N) {z : Int} : z ∈ rowsMinus N s v (rowOf N s v) y ↔ z ∈ rowOf N s y ∧ z ≠ v := by
  unfold rowsMinus
  split
  · exact minusL_mem
  · rename_i hn
    constructor
    · intro h
      refine ⟨h, fun e => hn ?_⟩
      subst e
      obtain ⟨h1, x, h2, h3, h4, h5⟩ := rowOf_mem.1 h
      have hx : v = x := by omega
      subst hx
      exact rowOf_mem.2 ⟨hin, y, rfl, hy, h1, by rw [hs.sym]; exact h5⟩
    · exact fun h => h.1
theorem goS_adj_0 (hs : SymS s) (h : (nearS N s v).length ≤ 2) (hadd : (stepS N s v).added = false) (x y : Nat) : (goS N s v).adj x y = s.adj x y := by
  rcases stepS_cases N s v h with ⟨_, _, h3⟩ | ⟨a, _, _, h3⟩ | ⟨a, b, _, h2, h3⟩
  · rw [h3]
  · rw [h3]
  · rw [h3]
    rw [h2] at hadd
    have hab : s.adj a b = true := by simpa using hadd
    show ((x == a && y == b) || (x == b && y == a) || s.adj x y) = s.adj x y
    by_cases g1 : x = a ∧ y = b
    · obtain ⟨rfl, rfl⟩ := g1; simp [hab]
    · by_cases g2 : x = b ∧ y = a
      · obtain ⟨rfl, rfl⟩ := g2; rw [hs.sym x y, hab]; simp
      · have k1 : (x == a && y == b) = false := by rw [← Bool.not_eq_true]; simpa using g1
        have k2 : (x == b && y == a) = false := by rw [← Bool.not_eq_true]; simpa using g2
        rw [k1, k2]; rfl
theorem goS_rowOf_mem {z : Int} {y : Nat} : z ∈ rowOf N (goS N s v) y ↔ y ≠ v ∧ s.inn y = true ∧ ∃ x : Nat, z = x ∧ x < N ∧ x ≠ v ∧ s.inn x = true ∧ (goS N s v).adj y x = true := by
  rw [rowOf_mem, goS_inn]
  simp only [Bool.and_eq_true, bne_iff_ne, ne_eq]
  constructor
  · rintro ⟨⟨h1, h2⟩, x, h3, h4, ⟨h5, h6⟩, h7⟩; exact ⟨h1, h2, x, h3, h4, h5, h6, h7⟩
  · rintro ⟨h1, h2, x, h3, h4, h5, h6, h7⟩; exact ⟨⟨h1, h2⟩, x, h3, h4, ⟨h5, h6⟩, h7⟩
/-- No edge was added. -/
theorem rows_go_0 (hs : SymS s) (hin : s.inn v = true) (hv : v < N) (h : (nearS N s v).length ≤ 2) (hadd : (stepS N s v).added = false) {y : Nat} (hy : y < N) :
    (if y = v then [] else rowsMinus N s v (rowOf N s v) y) = rowOf N (goS N s v) y := by
  split
  · rename_i e
    subst e
    unfold rowOf
    rw [goS_inn]; simp
  · rename_i hne
    refine strict_ext (rowsMinus_sorted N s v _ y) (rowOf_sorted N _ y) fun z => ?_
    rw [rowsMinus_mem hs hin hv hy, goS_rowOf_mem, rowOf_mem]
    constructor
    · rintro ⟨⟨h1, x, h2, h3, h4, h5⟩, h6⟩
      exact ⟨hne, h1, x, h2, h3, by omega, h4, by rw [goS_adj_0 hs h hadd]; exact h5⟩
    · rintro ⟨_, h1, x, h2, h3, h4, h5, h6⟩
      rw [goS_adj_0 hs h hadd] at h6
      exact ⟨⟨h1, x, h2, h3, h5, h6⟩, by omega⟩
/-- An edge of a and b was added. -/
theorem rows_go_1 (hs : SymS s) (hin : s.inn v = true) (hv : v < N) {a b : Nat} (hab : nearS N s v = [a, b]) (hadd : s.adj a b = false) {y : Nat} (hy : y < N) :
    (if y = v then [] else if y = b then plusL (rowsMinus N s v (rowOf N s v) b) a else if y = a then plusL (rowsMinus N s v (rowOf N s v) a) b else rowsMinus N s v (rowOf N s v) y) = rowOf N (goS N s v) y := by
  have ha := near_mem (N := N) (s := s) (v := v) (x := a) (by rw [hab]; simp)
  have hb := near_mem (N := N) (s := s) (v := v) (x := b) (by rw [hab]; simp)
  have hva : v ≠ a := fun e => by have := ha.2.2; rw [← e, hs.irr] at this; cases this
  have hvb : v ≠ b := fun e => by have := hb.2.2; rw [← e, hs.irr] at this; cases this
  have hsrt := near_sorted N s v
  rw [hab] at hsrt
  have hlt : a < b := by simpa using hsrt
  have hadj : ∀ x y, (goS N s v).adj x y = ((x == a && y == b) || (x == b && y == a) || s.adj x y) := fun x y => by rw [goS_2 hab]
  have na : (b : Int) ∉ rowsMinus N s v (rowOf N s v) a := by
    rw [rowsMinus_mem hs hin hv ha.1, rowOf_mem]
    rintro ⟨⟨_, x, h2, _, _, h5⟩, _⟩
    have : b = x := by omega
    subst this
    rw [hadd] at h5; cases h5
  have nb : (a : Int) ∉ rowsMinus N s v (rowOf N s v) b := by
    rw [rowsMinus_mem hs hin hv hb.1, rowOf_mem]
    rintro ⟨⟨_, x, h2, _, _, h5⟩, _⟩
    have : a = x := by omega
    subst this
    rw [hs.sym, hadd] at h5; cases h5
  split
  · rename_i e
    subst e
    unfold rowOf
    rw [goS_inn]; simp
  · rename_i hne
    split
    · rename_i e
      subst e
      refine strict_ext (plusL_sorted (rowsMinus_sorted N s v _ y) nb) (rowOf_sorted N _ y) fun z => ?_
      rw [plusL_mem, rowsMinus_mem hs hin hv hy, goS_rowOf_mem, rowOf_mem]
      constructor
      · rintro (rfl | ⟨⟨h1, x, h2, h3, h4, h5⟩, h6⟩)
        · exact ⟨hne, hb.2.1, a, rfl, ha.1, Ne.symm hva, ha.2.1, by rw [hadj]; simp⟩
        · exact ⟨hne, h1, x, h2, h3, by omega, h4, by rw [hadj, h5]; simp⟩
      · rintro ⟨_, h1, x, h2, h3, h4, h5, h6⟩
        rw [hadj] at h6
        by_cases hxa : x = a
        · subst hxa; exact .inl h2
        · right
          have : s.adj y x = true := by
            have e1 : (y == a && x == y) = false := by simp; omega
            have e2 : (y == y && x == a) = false := by simp [hxa]
            rw [e1, e2] at h6; simpa using h6
          exact ⟨⟨h1, x, h2, h3, h5, this⟩, by omega⟩
    · rename_i hnb
      split
      · rename_i e
        subst e
        refine strict_ext (plusL_sorted (rowsMinus_sorted N s v _ y) na) (rowOf_sorted N _ y) fun z => ?_
        rw [plusL_mem, rowsMinus_mem hs hin hv hy, goS_rowOf_mem, rowOf_mem]
        constructor
        · rintro (rfl | ⟨⟨h1, x, h2, h3, h4, h5⟩, h6⟩)
          · exact ⟨hne, ha.2.1, b, rfl, hb.1, Ne.symm hvb, hb.2.1, by rw [hadj]; simp⟩
          · exact ⟨hne, h1, x, h2, h3, by omega, h4, by rw [hadj, h5]; simp⟩
        · rintro ⟨_, h1, x, h2, h3, h4, h5, h6⟩
          rw [hadj] at h6
          by_cases hxb : x = b
          · subst hxb; exact .inl h2
          · right
            have : s.adj y x = true := by
              have e1 : (y == y && x == b) = false := by simp [hxb]
              have e2 : (y == b && x == y) = false := by simp; omega
              rw [e1, e2] at h6; simpa using h6
            exact ⟨⟨h1, x, h2, h3, h5, this⟩, by omega⟩
      · rename_i hna
        refine strict_ext (rowsMinus_sorted N s v _ y) (rowOf_sorted N _ y) fun z => ?_
        rw [rowsMinus_mem hs hin hv hy, goS_rowOf_mem, rowOf_mem]
        have hadj' : ∀ x, (goS N s v).adj y x = s.adj y x := fun x => by
          rw [hadj]
          have e1 : (y == a && x == b) = false := by simp [hna]
          have e2 : (y == b && x == a) = false := by simp [hnb]
          rw [e1, e2]; rfl
        constructor
        · rintro ⟨⟨h1, x, h2, h3, h4, h5⟩, h6⟩
          exact ⟨hne, h1, x, h2, h3, by omega, h4, by rw [hadj']; exact h5⟩
        · rintro ⟨_, h1, x, h2, h3, h4, h5, h6⟩
          rw [hadj'] at h6
          exact ⟨⟨h1, x, h2, h3, h5, h6⟩, by omega⟩
end
theorem SymS.go {N : Nat} {s : St} {v : Nat} (hs : SymS s) (h : (nearS N s v).length ≤ 2) : SymS (goS N s v) := by
  rcases stepS_cases N s v h with ⟨_, _, h3⟩ | ⟨a, _, _, h3⟩ | ⟨a, b, h1, h2, h3⟩
  · rw [h3]; exact ⟨hs.sym, hs.irr⟩
  · rw [h3]; exact ⟨hs.sym, hs.irr⟩
  · rw [h3]
    have hsrt := near_sorted N s v
    rw [h1] at hsrt
    have hlt : a < b := by simpa using hsrt
    refine ⟨fun x y => ?_, fun x => ?_⟩
    · show ((x == a && y == b) || (x == b && y == a) || s.adj x y) = ((y == a && x == b) || (y == b && x == a) || s.adj y x)
      rw [hs.sym x y]
      cases x == a <;> cases y == b <;> cases x == b <;> cases y == a <;> rfl
    · show ((x == a && x == b) || (x == b && x == a) || s.adj x x) = false
      rw [hs.irr]
      have e1 : (x == a && x == b) = false := by simp; omega
      have e2 : (x == b && x == a) = false := by simp; omega
      rw [e1, e2]; rfl
theorem SymS.start {N : Nat} {es : List (Int × Int)} (h : rightB N es = true) : SymS (beginS N es) := by
  refine ⟨fun x y => decide_eq_decide.2 both_comm, fun x => ?_⟩
  have := hasR_self (r := []) (right_mem h) trivial (x : Int)
  simpa [hasR, beginS] using this

/-! The rest in memory, by rows. -/
structure RestQ (w : World) (base N : Nat) (R : Nat → List Int) (inn : Nat → Bool) (gn cn gg cg : Nat) (vs : List Value) : Prop where
  near : Rows2 w base gn 3 30 N vs ((tab N R).map ints)
  gone : w.ownsRow base 4 1 (.slice (some ⟨gg, 0, none⟩) N cg) N (tab N fun x => .bool (!inn x))
  cap : N ≤ cn ∧ cn ≤ 9223372036854775807
section
variable {w w1 : World} {base N : Nat} {R : Nat → List Int} {inn : Nat → Bool} {gn cn gg cg : Nat} {vs : List Value}
theorem RestP.q {s : St} (h : RestP w base N s gn cn gg cg vs) : RestQ w base N (rowOf N s) s.inn gn cn gg cg vs := ⟨h.near, h.gone, h.cap⟩
theorem RestQ.p {s : St} (h : RestQ w base N R inn gn cn gg cg vs) (h1 : ∀ y, y < N → R y = rowOf N s y) (h2 : ∀ y, y < N → inn y = s.inn y) : RestP w base N s gn cn gg cg vs := by
  have e1 : tab N R = rowsP N s := tab_congr h1
  have e2 : (tab N fun x => Value.bool (!inn x)) = tab N fun x => Value.bool (!s.inn x) := tab_congr fun i hi => by rw [h2 i hi]
  exact ⟨e1 ▸ h.near, e2 ▸ h.gone, h.cap⟩
theorem RestQ.congr {R' : Nat → List Int} (h : RestQ w base N R inn gn cn gg cg vs) (h1 : ∀ y, y < N → R y = R' y) : RestQ w base N R' inn gn cn gg cg vs :=
  ⟨tab_congr h1 ▸ h.near, h.gone, h.cap⟩
theorem RestQ.below (h : RestQ w base N R inn gn cn gg cg vs) (hb : Below w.heap.size w w1) : RestQ w1 base N R inn gn cn gg cg vs := ⟨h.near.below hb, own_below h.gone hb, h.cap⟩
theorem RestQ.row (h : RestQ w base N R inn gn cn gg cg vs) {x : Nat} (hx : x < N) : ∃ A c, vs[x]? = some (.slice A (R x).length c) ∧ ((tab N R).map ints)[x]? = some (ints (R x)) ∧
    w.ownsRow base 3 1 (.slice A (R x).length c) (R x).length (ints (R x)) ∧ Sl w A (R x).length c 1 (ints (R x)) ∧ w.cell? ⟨gn, x, none⟩ = some (.slice A (R x).length c) := by
  obtain ⟨A, c, u, h1, h2, h3, h4⟩ := h.near.int hx
  have h5 := h.near.row' h2
  rw [tab_get _ hx] at h2
  injection h2 with h2
  rw [h2]
  exact ⟨A, c, h1, h5, h3, h4, h.near.cell h1⟩
/-- The row y is changed, and laid back. -/
theorem RestQ.write (h : RestQ w base N R inn gn cn gg cg vs) {y : Nat} (hy : y < N) {vy : Value} (hv : vs[y]? = some vy) (hg : w.grownBy w1 vy.ownBlock) {v' : Value} {u' : List Int}
    (hown : w1.ownsRow base 3 1 v' u'.length (ints u')) (hat : v'.ownBlock = none ∨ v'.ownBlock = vy.ownBlock ∨ ∃ k, v'.ownBlock = some k ∧ w.heap.size ≤ k) :
    RestQ (w1.setCell ⟨gn, y, none⟩ v') base N (fun j => if j = y then u' else R j) inn gn cn gg cg (vs.set y v') := by
  obtain ⟨A, c, h1, h5, h3, _, _⟩ := h.row hy
  rw [hv] at h1
  have hrow : w.ownsRow base 3 1 vy (R y).length (ints (R y)) := by injection h1 with h1; rw [h1]; exact h3
  refine ⟨?_, ?_, h.cap⟩
  · have := h.near.write hv h5 hg (xs' := ints u') (by rw [ints_length]; exact hown) hat
    rw [← List.map_set, tab_set] at this
    exact this
  · obtain ⟨tl, ht⟩ := h.near.outer
    have hgo : w1.ownsRow base 4 1 (.slice (some ⟨gg, 0, none⟩) N cg) N _ := h.gone.kept hg (own_type_ne h.gone hrow (by decide))
    have ht1 := (hg.block gn h.near.lt (Ne.symm (own_block_ne hrow ht (by decide)))).trans ht
    exact own_setCell hgo (own_block_ne hgo ht1 (by decide))
/-- What stands behind the change of a row, ahead of the store. -/
theorem RestQ.after (h : RestQ w base N R inn gn cn gg cg vs) {y : Nat} (hy : y < N) {vy : Value} (hv : vs[y]? = some vy) (hg : w.grownBy w1 vy.ownBlock) :
    w1.cell? ⟨gn, y, none⟩ = some vy ∧ w1.frozen? ⟨gn, y, none⟩ = false ∧ ∀ (b : Nat) (cs : Array Value) (t : TypeId), w.heap[b]? = some (.cells cs t (0, 0)) → 3 ≠ t → w1.heap[b]? = some (.cells cs t (0, 0)) := by
  obtain ⟨A, c, h1, h5, h3, _, _⟩ := h.row hy
  rw [hv] at h1
  have hrow : w.ownsRow base 3 1 vy (R y).length (ints (R y)) := by injection h1 with h1; rw [h1]; exact h3
  obtain ⟨k1, k2⟩ := h.near.cell_grown hv h5 hg hv
  exact ⟨k1, k2, fun b cs t hb ht => (hg.block b (Array.getElem?_eq_some_iff.1 hb).1 (Ne.symm (own_block_ne hrow hb ht))).trans hb⟩
theorem RestQ.gone_cell (h : RestQ w base N R inn gn cn gg cg vs) {x : Nat} (hx : x < N) : w.cell? ⟨gg, x, none⟩ = some (.bool (!inn x)) ∧ w.frozen? ⟨gg, x, none⟩ = false := by
  have := h.gone.cellAt (g := gg) x (by simpa using hx)
  rw [tab_get _ hx] at this
  exact ⟨this, h.gone.frozenAt x⟩
/-- A vertex is gone. -/
theorem RestQ.out (h : RestQ w base N R inn gn cn gg cg vs) {x : Nat} (hx : x < N) : RestQ (w.setCell ⟨gg, x, none⟩ (.bool true)) base N R (fun j => j != x && inn j) gn cn gg cg vs := by
  have h1 := h.gone.stored x (.bool true)
  obtain ⟨tl, ht⟩ := h.near.outer
  refine ⟨?_, ?_, h.cap⟩
  · obtain ⟨_, cur, hh, _⟩ := own_open h.gone
    exact h.near.aside hh (by decide) (by decide)
  · have := h1.1
    rw [tab_set] at this
    have e : (tab N fun j => if j = x then Value.bool true else Value.bool (!inn j)) = tab N fun j => Value.bool (!(j != x && inn j)) := tab_congr fun i hi => by
      by_cases hi : i = x
      · simp [hi]
      · simp [hi]
    rw [← e]; exact this
theorem RestQ.lts (h : RestQ w base N R inn gn cn gg cg vs) : gn < w.heap.size ∧ gg < w.heap.size ∧ base ≤ gn ∧ base ≤ gg ∧ gn ≠ gg := by
  have h1 := h.gone.lt gg rfl
  obtain ⟨tl, ht⟩ := h.near.outer
  exact ⟨h.near.lt, h1.2, h.near.low, h1.1, fun e => own_block_ne h.gone ht (by decide) (by rw [e]; rfl)⟩
end
end Go.Proofs.Ytcbojlidfabgeaa
