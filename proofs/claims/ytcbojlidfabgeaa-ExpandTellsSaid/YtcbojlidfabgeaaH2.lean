/- slices.BinarySearch, Delete, Insert of rows of the call's own, in this seat's words. Conditions: at most a million numbers. -/
import Derived.Test.YtcbojlidfabgeaaG5
import Derived.Test.YtcbojlidfabgeaaShJ
namespace Go.Proofs.Ytcbojlidfabgeaa
open Go.RowKit Go.Sort
set_option linter.unusedVariables false
set_option linter.unusedSimpArgs false

theorem BinS (w : World) (A : Option Addr) (c : Nat) (u : List Int) (x : Int) (h : Sl w A u.length c 1 (ints u)) (hs : u.Pairwise (· ≤ ·)) (hn : u.length ≤ 1000000) :
    Calls Try.prog 62 #[.slice A u.length c, .int .i64 x] w fun e w' => e = .returned (.tuple #[.int .i64 (u.countP (· < x) : Nat), .bool (u.contains x)]) ∧ ∃ q, w' = w.drewN q := by
  rcases h.cells with h0 | ⟨b, off, rfl, hc⟩
  · have : u = [] := List.length_eq_zero_iff.1 h0
    subst this
    refine (Try.slices_BinarySearch_int_empty A c x w).mono ?_
    rintro e w' ⟨rfl, rfl⟩
    exact ⟨rfl, 0, rfl⟩
  · refine (Try.slices_BinarySearch_int b off u.length c u x w (Nat.le_refl _) (by omega) (fun j hj => ?_) (by rwa [List.take_length])).mono ?_
    · exact hc j _ (ints_get (by rw [List.getD_eq_getElem?_getD, List.getElem?_eq_getElem hj]; rfl))
    · rintro e w' ⟨rfl, hq⟩
      rw [List.take_length]
      exact ⟨rfl, hq⟩
theorem grownBy_putRow {w : World} {g q : Nat} {d : Array Int} : w.grownBy (putRow (Value.int .i64) (Sort.ahead w q) g 0 d) (some g) :=
  ⟨rfl, rfl, rfl, by simp [putRow, mapBlock, Sort.ahead], fun k hk hne => by
    have : g ≠ k := fun e => hne (by rw [e])
    simp [putRow, mapBlock, Sort.ahead, Array.getElem?_modify, this]⟩
theorem DelS (w : World) (A : Option Addr) (c base : Nat) (u : List Int) (i : Nat) (h : w.ownsRow base 3 1 (.slice A u.length c) u.length (ints u)) (hi : i < u.length) :
    Calls Try.prog 113 #[.slice A u.length c, .int .i64 i, .int .i64 ((i : Int) + 1)] w fun e w' => e = .returned (.slice A (u.length - 1) c) ∧ w'.ownsRow base 3 1 (.slice A (u.length - 1) c) (u.length - 1) (ints (u.eraseIdx i)) ∧ w.grownBy w' (Value.slice A u.length c).ownBlock := by
  have hv : (Value.slice A u.length c) ≠ .slice none 0 0 := by
    intro e; injection e with _ e _; omega
  obtain ⟨g, cap, he, hg1, hg2, hc, hm, hl, hH⟩ := Lib.holds_of_ownsRow (enc := Value.int .i64) (zs := u) h hv
  injection he with h1 _ h3
  subst h1; subst h3
  have e1 : ((i : Int) + 1) = ((i + 1 : Nat) : Int) := by omega
  rw [e1]
  refine (Try.slices_Delete_int g 0 c i (i + 1) u w hH hc (by unfold maxLen at hm; omega) (by omega) (by omega)).mono ?_
  rintro e w' ⟨rfl, q, rfl⟩
  have e2 : u.length - (i + 1 - i) = u.length - 1 := by omega
  rw [e2]
  refine ⟨rfl, ?_, grownBy_putRow⟩
  have hlen : (u.take i ++ u.drop (i + 1) ++ List.replicate (i + 1 - i) 0).length = u.length := by simp; omega
  have h5 := Lib.ownsRow_putRow (enc := Value.int .i64) (q := q) (ys := u.take i ++ u.drop (i + 1) ++ List.replicate (i + 1 - i) 0) (k := u.length - 1) h hlen (by omega)
  have h6 : (u.take i ++ u.drop (i + 1) ++ List.replicate (i + 1 - i) 0).take (u.length - 1) = u.eraseIdx i := by
    rw [List.take_append_of_le_length (by simp; omega), List.take_of_length_le (by simp; omega), List.eraseIdx_eq_take_drop_succ]
  rw [h6] at h5
  exact h5

/-! Cells written one behind the other. -/
def spl : List Value → Nat → List Value → List Value
  | cs, _, [] => cs
  | cs, o, v :: vs => spl (cs.set o v) (o + 1) vs
theorem spl_length (vs : List Value) : ∀ (cs : List Value) (o : Nat), (spl cs o vs).length = cs.length := by
  induction vs with
  | nil => intro cs o; rfl
  | cons v vs ih => intro cs o; rw [spl, ih]; simp
theorem spl_get (vs : List Value) : ∀ (cs : List Value) (o j : Nat), (spl cs o vs)[j]? = if o ≤ j ∧ j < o + vs.length ∧ j < cs.length then vs[j - o]? else cs[j]? := by
  induction vs with
  | nil =>
    intro cs o j
    rw [if_neg (by simp; omega)]; rfl
  | cons v vs ih =>
    intro cs o j
    rw [spl, ih]
    by_cases h1 : o = j
    · subst h1
      rw [if_neg (by omega)]
      by_cases h2 : o < cs.length
      · rw [if_pos (by simp; omega), List.getElem?_set_self h2]; simp
      · rw [if_neg (by omega), List.getElem?_eq_none (by simp; omega), List.getElem?_eq_none (by omega)]
    · rw [List.getElem?_set_ne h1]
      by_cases h2 : o + 1 ≤ j ∧ j < o + 1 + vs.length ∧ j < cs.length
      · rw [if_pos (by simpa using h2), if_pos (by simp; omega)]
        obtain ⟨m, hm⟩ : ∃ m, j - o = m + 1 := ⟨j - o - 1, by omega⟩
        rw [hm, List.getElem?_cons_succ, show j - (o + 1) = m by omega]
      · rw [if_neg (by simpa using h2), if_neg (by simp; omega)]
theorem heap_setCells {g : Nat} {t : TypeId} (vs : List Value) : ∀ (w : World) (o : Nat) (cs : List Value), w.heap[g]? = some (.cells cs.toArray t (0, 0)) → (w.setCells g o vs).heap[g]? = some (.cells (spl cs o vs).toArray t (0, 0)) := by
  induction vs with
  | nil => intro w o cs h; exact h
  | cons v vs ih =>
    intro w o cs h
    exact ih _ _ _ (heap_setCell h v)
theorem grownBy_trans {w w1 w2 : World} {row : Option Nat} (h : w.grownBy w1 row) (k : w1.grownBy w2 row) : w.grownBy w2 row :=
  ⟨k.os.trans h.os, k.tape.trans h.tape, k.output.trans h.output, Nat.le_trans h.size k.size, fun i hi hne => (k.block i (Nat.lt_of_lt_of_le hi h.size) hne).trans (h.block i hi hne)⟩
theorem grownBy_setCells {g : Nat} (vs : List Value) : ∀ (w : World) (o : Nat), w.grownBy (w.setCells g o vs) (some g) := by
  induction vs with
  | nil => intro w o; exact ⟨rfl, rfl, rfl, Nat.le_refl _, fun _ _ _ => rfl⟩
  | cons v vs ih =>
    intro w o
    exact grownBy_trans (grownBy_setCell w g o v) (ih _ _)
def insL (u : List Int) (i : Nat) (x : Int) : List Int := u.take i ++ x :: u.drop i
theorem insL_length (u : List Int) (i : Nat) (x : Int) (hi : i ≤ u.length) : (insL u i x).length = u.length + 1 := by simp [insL]; omega
theorem zero_len (n : Nat) : (Builtin.zeroCells (Value.int .i64 0).cells n).size = n := by simp [Builtin.zeroCells, Value.cells]
theorem ints_oneCell (u : List Int) : ∀ v ∈ ints u, v.oneCell' = true := by simp [ints, Value.oneCell']
theorem own_new {W : World} {g n cap base : Nat} {cur : List Value} {xs : List Value} (hh : W.heap[g]? = some (.cells cur.toArray 3 (0, 0))) (hg : base ≤ g) (hn : n ≤ cap) (hc : cap ≤ maxLen) (hs : cur.length = cap) (ht : cur.take n = xs) :
    W.ownsRow base 3 1 (.slice (some ⟨g, 0, none⟩) n cap) n xs := own_mk hh hg hn hc (by rw [Nat.mul_one]; exact hs) (by rw [Nat.mul_one]; exact ht)
theorem ins_of {cur : List Value} {u : List Int} {i : Nat} {x : Int} (hi : i ≤ u.length) (hl : u.length + 1 ≤ cur.length) (h1 : ∀ j, j < i → cur[j]? = (ints u)[j]?) (h2 : cur[i]? = some (.int .i64 x)) (h3 : ∀ j, i ≤ j → j < u.length → cur[j + 1]? = (ints u)[j]?) :
    cur.take (u.length + 1) = ints (insL u i x) := by
  have hlen : (ints (insL u i x)).length = u.length + 1 := by rw [ints_length, insL_length u i x hi]
  apply List.ext_getElem?
  intro j
  rw [List.getElem?_take]
  by_cases hj : j < u.length + 1
  · rw [if_pos hj]
    have hE : (ints (insL u i x))[j]? = ((ints u).take i ++ (Value.int .i64 x) :: (ints u).drop i)[j]? := by simp [insL, ints]
    rw [hE]
    have htl : ((ints u).take i).length = i := by simp; omega
    rcases Nat.lt_trichotomy j i with h | h | h
    · rw [h1 j h, List.getElem?_append_left (by omega), List.getElem?_take, if_pos h]
    · subst h
      rw [h2, List.getElem?_append_right (by omega), htl]; simp
    · obtain ⟨m, rfl⟩ : ∃ m, j = m + 1 := ⟨j - 1, by omega⟩
      rw [h3 m (by omega) (by omega), List.getElem?_append_right (by omega), htl, show m + 1 - i = (m - i) + 1 by omega, List.getElem?_cons_succ, List.getElem?_drop, show i + (m - i) = m by omega]
  · rw [if_neg hj, List.getElem?_eq_none (by omega)]
theorem below_setCells {B g : Nat} {w0 : World} (hB : B ≤ g) (vs : List Value) : ∀ (w : World) (o : Nat), Below B w0 w → Below B w0 (w.setCells g o vs) := by
  induction vs with
  | nil => intro w o h; exact h
  | cons v vs ih => intro w o h; exact ih _ _ (h.setCell (p := ⟨g, o, none⟩) hB v)
theorem drew_some {w : World} {k : Nat} {x : Obj} (h : w.heap[k]? = some x) : w.drew.heap[k]? = some x := h
theorem grownBy_drew (w : World) (row : Option Nat) : w.grownBy w.drew row := ⟨rfl, rfl, rfl, Nat.le_refl _, fun _ _ _ => rfl⟩
set_option maxHeartbeats 1600000 in
theorem InsS (w : World) (A : Option Addr) (c base : Nat) (u : List Int) (i : Nat) (x : Int) (vb : Nat) (h : w.ownsRow base 3 1 (.slice A u.length c) u.length (ints u)) (hi : i ≤ u.length) (hn : u.length ≤ 1000000) (hbase : base ≤ w.heap.size)
    (hvb : w.heap[vb]? = some (.cells #[.int .i64 x] 3 (0, 0))) (hne : (Value.slice A u.length c).ownBlock ≠ some vb) :
    Calls Try.prog 114 #[.slice A u.length c, .int .i64 i, .slice (some ⟨vb, 0, none⟩) 1 1] w fun e w' => ∃ A' c', e = .returned (.slice A' (u.length + 1) c') ∧ w'.ownsRow base 3 1 (.slice A' (u.length + 1) c') (u.length + 1) (ints (insL u i x)) ∧ w.grownBy w' (Value.slice A u.length c).ownBlock ∧
      ((Value.slice A' (u.length + 1) c').ownBlock = (Value.slice A u.length c).ownBlock ∨ ∃ k, (Value.slice A' (u.length + 1) c').ownBlock = some k ∧ w.heap.size ≤ k) := by
  have hs := Sl.of_own' h
  have hcap := hs.cap
  have hcapm := hs.capm
  have hvc : ∀ j v, [Value.int .i64 x][j]? = some v → w.cell? ⟨vb, 0 + j, none⟩ = some v := by
    intro j v hj
    cases j with
    | zero => simp at hj; subst hj; rw [cell_of_row w vb _ _ _ _ hvb]; rfl
    | succ j => simp at hj
  have hG1 := grownCap_ge w (u.length + 1) c 3
  have hG2 := grownCap_le_maxLen w (u.length + 1) c 3 (by unfold maxLen; omega)
  have hcs0 : ∀ (b : Nat), A = some ⟨b, 0, none⟩ → ∀ j v, (ints u)[j]? = some v → w.cell? ⟨b, 0 + j, none⟩ = some v := by
    intro b hA j v hj
    rcases hs.cells with h0 | ⟨b', off', hA', hc'⟩
    · rw [List.length_eq_zero_iff.1 h0] at hj; simp [ints] at hj
    · rw [hA] at hA'; cases hA'
      exact hc' j v hj
  rcases Nat.lt_or_ge i u.length with hlt | hge
  · -- in the midst
    obtain ⟨b, off, rfl, _⟩ := hs.at' (by omega)
    obtain ⟨rfl, cur, hh, hb, _, hm, hl, ht⟩ := own_open h
    simp only [Nat.mul_one] at hl ht
    have hbn : vb ≠ b := fun e => hne (by rw [e]; rfl)
    have hc0 := hcs0 b rfl
    rcases Nat.lt_or_ge c (u.length + 1) with hroom | hroom
    · refine (Any2.slices_Insert_int_grow Try.laysNm221 b 0 u.length c i vb 0 1 1 (ints u) [.int .i64 x] w hlt (by omega) hcap hroom (by omega) (by simp) rfl hc0 hvc (ints_oneCell u) (by simp [Value.oneCell'])).mono ?_
      rintro e w' ⟨rfl, rfl⟩
      refine ⟨_, _, rfl, ?_, ?_, .inr ⟨_, rfl, Nat.le_refl _⟩⟩
      · have g1 : (w.alloc (.cells (((ints u).take i).toArray ++ Builtin.zeroCells (Value.int .i64 0).cells (u.length + 1 - i) ++ Builtin.zeroCells (Value.int .i64 0).cells (grownCap w (u.length + 1) c 3 - (u.length + 1))) 3)).drew.heap[w.heap.size]? = some (.cells ((ints u).take i ++ ((Builtin.zeroCells (Value.int .i64 0).cells (u.length + 1 - i)).toList ++ (Builtin.zeroCells (Value.int .i64 0).cells (grownCap w (u.length + 1) c 3 - (u.length + 1))).toList)).toArray 3 (0, 0)) := by
          have := heap_alloc_new w (.cells (((ints u).take i).toArray ++ Builtin.zeroCells (Value.int .i64 0).cells (u.length + 1 - i) ++ Builtin.zeroCells (Value.int .i64 0).cells (grownCap w (u.length + 1) c 3 - (u.length + 1))) 3)
          refine Eq.trans this ?_
          congr 2
          apply Array.ext'
          simp
        have g2 := heap_setCells [Value.int .i64 x] _ i _ g1
        have g3 := heap_setCells ((ints u).drop i) _ (i + 1) _ (drew_some g2)
        have hcl : ((ints u).take i ++ ((Builtin.zeroCells (Value.int .i64 0).cells (u.length + 1 - i)).toList ++ (Builtin.zeroCells (Value.int .i64 0).cells (grownCap w (u.length + 1) c 3 - (u.length + 1))).toList)).length = grownCap w (u.length + 1) c 3 := by
          simp only [List.length_append, List.length_take, ints_length, Array.length_toList, zero_len]
          omega
        refine own_new g3 (by omega) hG1 hG2 (by rw [spl_length, spl_length]; exact hcl) (ins_of (by omega) (by rw [spl_length, spl_length]; omega) ?_ ?_ ?_)
        · intro j hj
          rw [spl_get, if_neg (by omega), spl_get, if_neg (by omega), List.getElem?_append_left (by simp; omega), List.getElem?_take, if_pos hj]
        · rw [spl_get, if_neg (by omega), spl_get, if_pos (by simp only [List.length_singleton]; omega)]; simp
        · intro j h1 h2
          rw [spl_get, if_pos (by rw [spl_length]; simp only [List.length_drop, ints_length]; omega), List.getElem?_drop, show i + (j + 1 - (i + 1)) = j by omega]
      · exact grownBy_of_below (below_setCells (Nat.le_refl _) _ _ _ (below_setCells (Nat.le_refl _) _ _ _ (below_alloc w _).drew).drew) _
    · refine (Any2.slices_Insert_int_shift Try.laysNm221 b 0 u.length c i vb 0 1 1 (ints u) [.int .i64 x] w hlt (by omega) hroom hcapm hbn (by simp) rfl hc0 (fun j hj => ?_) (fun j hj => frozen_of_row w b _ _ _ hh) hvc (ints_oneCell u) (by simp [Value.oneCell']) 3 3 1 c ?_ ?_ (by omega) (frozen_of_row w vb _ _ _ hvb) (frozen_of_row w vb _ _ _ hvb)).mono ?_
      · rw [cell_of_row w b _ _ _ _ hh]; simp; omega
      · simp [World.shape?, hvb]
      · simp [World.shape?, hh, hl]
      · rintro e w' ⟨rfl, rfl⟩
        refine ⟨_, _, rfl, ?_, ?_, .inl rfl⟩
        · have g2 := heap_setCells ((ints u).drop i) w.drew (0 + (i + 1)) _ hh
          have g3 := heap_setCells [Value.int .i64 x] _ (0 + i) _ g2
          refine own_new g3 hb hroom (by omega) (by rw [spl_length, spl_length]; exact hl) (ins_of (by omega) (by rw [spl_length, spl_length]; omega) ?_ ?_ ?_)
          · intro j hj
            rw [spl_get, if_neg (by omega), spl_get, if_neg (by omega), ← ht, List.getElem?_take, if_pos (by omega)]
          · rw [spl_get, if_pos (by rw [spl_length]; simp only [List.length_singleton]; omega)]; simp
          · intro j h1 h2
            rw [spl_get, if_neg (by simp only [List.length_singleton]; omega), spl_get, if_pos (by simp only [List.length_drop, ints_length]; omega), List.getElem?_drop, show i + (j + 1 - (0 + (i + 1))) = j by omega]
        · exact grownBy_trans (grownBy_trans (grownBy_drew w _) (grownBy_setCells _ _ _)) (grownBy_setCells _ _ _)
  · obtain rfl : i = u.length := by omega
    rcases Nat.lt_or_ge c (u.length + 1) with hroom | hroom
    · refine (Any2.slices_Insert_int_end_grow Try.laysNm221 A u.length c vb 0 1 1 (ints u) [.int .i64 x] w (by omega) hcap hroom (by omega) (by simp) rfl ?_ ?_ hvc (by simp [Value.oneCell'])).mono ?_
      · intro hA
        rcases h.2 with ⟨h0, _⟩ | ⟨g, cap, cur, h0, _⟩
        · injection h0
        · injection h0 with h1; rw [hA] at h1; cases h1
      · intro a ha j v hj
        rcases h.2 with ⟨h0, _⟩ | ⟨g, cap, cur, h0, _⟩
        · injection h0 with h1; rw [ha] at h1; cases h1
        · injection h0 with h1
          rw [ha] at h1; cases h1
          rw [addr_add]
          exact hcs0 g ha j v hj
      · rintro e w' ⟨rfl, rfl⟩
        refine ⟨_, _, rfl, ?_, grownBy_of_below ?_ _, .inr ⟨_, rfl, Nat.le_refl _⟩⟩
        · have g1 : (w.drew.alloc (.cells ((ints u ++ [Value.int .i64 x]).toArray ++ Builtin.zeroCells (Value.int .i64 0).cells (grownCap w (u.length + 1) c 3 - (u.length + 1))) 3)).heap[w.heap.size]? = some (.cells (ints u ++ ([Value.int .i64 x] ++ (Builtin.zeroCells (Value.int .i64 0).cells (grownCap w (u.length + 1) c 3 - (u.length + 1))).toList)).toArray 3 (0, 0)) := by
            have := heap_alloc_new w.drew (.cells ((ints u ++ [Value.int .i64 x]).toArray ++ Builtin.zeroCells (Value.int .i64 0).cells (grownCap w (u.length + 1) c 3 - (u.length + 1))) 3)
            refine Eq.trans this ?_
            congr 2
            apply Array.ext'
            simp
          have hcl : (ints u ++ ([Value.int .i64 x] ++ (Builtin.zeroCells (Value.int .i64 0).cells (grownCap w (u.length + 1) c 3 - (u.length + 1))).toList)).length = grownCap w (u.length + 1) c 3 := by
            simp only [List.length_append, ints_length, Array.length_toList, zero_len, List.length_singleton]
            omega
          refine own_new g1 (by omega) hG1 hG2 hcl (ins_of (Nat.le_refl _) (by omega) ?_ ?_ ?_)
          · intro j hj
            rw [List.getElem?_append_left (by simpa using hj)]
          · rw [List.getElem?_append_right (by simp)]; simp
          · intro j h1 h2; omega
        · exact below_join (w1 := w.drew) (Below.refl _ _).drew (below_alloc _ _)
    · rcases h.2 with ⟨h0, _⟩ | ⟨b, cap, cur0, h0, _⟩
      · injection h0 with _ _ h1; omega
      injection h0 with h1 _ h2
      subst h1; subst h2
      obtain ⟨_, cur, hh, hb, _, hm, hl, ht⟩ := own_open h
      simp only [Nat.mul_one] at hl ht
      refine (Any2.slices_Insert_int_end_room Try.laysNm221 b 0 u.length c vb 0 1 1 [.int .i64 x] w (by omega) hroom hcapm rfl (fun j hj => ?_) (fun j hj => frozen_of_row w b _ _ _ hh) hvc (by simp [Value.oneCell'])).mono ?_
      · rw [cell_of_row w b _ _ _ _ hh]; simp; omega
      · rintro e w' ⟨rfl, rfl⟩
        refine ⟨_, _, rfl, ?_, grownBy_setCells _ _ _, .inl rfl⟩
        have g1 := heap_setCells [Value.int .i64 x] w (0 + u.length) _ hh
        refine own_new g1 hb hroom hm (by rw [spl_length]; exact hl) (ins_of (Nat.le_refl _) (by rw [spl_length]; omega) ?_ ?_ ?_)
        · intro j hj
          rw [spl_get, if_neg (by omega), ← ht, List.getElem?_take, if_pos (by omega)]
        · rw [spl_get, if_pos (by simp only [List.length_singleton]; omega)]; simp
        · intro j h1 h2; omega
end Go.Proofs.Ytcbojlidfabgeaa
