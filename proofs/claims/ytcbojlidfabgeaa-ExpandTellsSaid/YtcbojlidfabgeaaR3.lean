/- The reference's layer 3 (In, Right, ..): what each function returns. Conditions: the arguments lie in memory. -/
import Derived.Test.YtcbojlidfabgeaaB
namespace Go.Proofs.Ytcbojlidfabgeaa
open Go.RowKit

theorem ret_bool {a b : Bool} (h : a = b) : Ending.returned (.bool a) = .returned (.bool b) := by rw [h]

def okEdge (n : Int) (e : Int × Int) : Bool := decide (0 ≤ e.1) && decide (e.2 < n) && decide (e.1 < e.2)
def ltEdge (x y : Int × Int) : Bool := decide (x.1 < y.1) || (decide (x.1 = y.1) && decide (x.2 < y.2))
def okAt (n : Int) (es : List (Int × Int)) (k : Nat) : Bool :=
  match es[k]? with
  | none => true
  | some e => okEdge n e && (k == 0 || match es[k-1]? with | none => true | some p => ltEdge p e)
def rightB (n : Int) (es : List (Int × Int)) : Bool := decide (0 ≤ n) && decide (n ≤ 1000) && decide (es.length ≤ 4000) && (List.range es.length).all (okAt n es)

theorem rightB_true {n : Int} {es : List (Int × Int)} (h1 : 0 ≤ n) (h2 : n ≤ 1000) (h3 : es.length ≤ 4000) (h : ∀ j, j < es.length → okAt n es j = true) : rightB n es = true := by
  simp [rightB, h1, h2, h3]; exact h
theorem rightB_false {n : Int} {es : List (Int × Int)} {j : Nat} (hj : j < es.length) (h : okAt n es j = false) : rightB n es = false := by
  have : (List.range es.length).all (okAt n es) = false := by
    rw [List.all_eq_false]; exact ⟨j, by simpa using hj, by simp [h]⟩
  simp [rightB, this]

theorem notin_succ {xs : List Int} {k : Nat} {x : Int} (hlt : k < xs.length) (h : x ∉ xs.take k) (he : ¬ xs[k] = x) : x ∉ xs.take (k+1) := by
  rw [List.take_succ_eq_append_getElem hlt, List.mem_append, List.mem_singleton]
  rintro (h1 | h1)
  · exact h h1
  · exact he h1.symm

theorem rightB_f1 {n : Int} {es : List (Int × Int)} (h : n < 0) : rightB n es = false := by
  have : ¬ 0 ≤ n := by omega
  simp [rightB, this]
theorem rightB_f2 {n : Int} {es : List (Int × Int)} (h : 1000 < n) : rightB n es = false := by
  have : ¬ n ≤ 1000 := by omega
  simp [rightB, this]
theorem rightB_f3 {n : Int} {es : List (Int × Int)} (h : (4000 : Int) < es.length) : rightB n es = false := by
  have : ¬ es.length ≤ 4000 := by omega
  simp [rightB, this]
theorem okAt_f {n : Int} {es : List (Int × Int)} {k : Nat} {x y : Int} (he : es[k]? = some (x, y)) (h : x < 0 ∨ n ≤ y ∨ y ≤ x) : okAt n es k = false := by
  have : okEdge n (x, y) = false := by simp [okEdge]; omega
  simp [okAt, he, this]
theorem okAt_0 {n : Int} {es : List (Int × Int)} {x y : Int} (he : es[0]? = some (x, y)) (h1 : ¬ x < 0) (h2 : ¬ n ≤ y) (h3 : ¬ y ≤ x) : okAt n es 0 = true := by
  have : okEdge n (x, y) = true := by simp [okEdge]; omega
  simp [okAt, he, this]
theorem okAt_s {n : Int} {es : List (Int × Int)} {k : Nat} {x y p q : Int} (he : es[k+1]? = some (x, y)) (hp : es[k]? = some (p, q)) (h1 : ¬ x < 0) (h2 : ¬ n ≤ y) (h3 : ¬ y ≤ x) : okAt n es (k+1) = ltEdge (p, q) (x, y) := by
  have : okEdge n (x, y) = true := by simp [okEdge]; omega
  simp [okAt, he, hp, this]

theorem In_any (w : World) (A : Option Addr) (c : Nat) (xs : List Int) (x : Int) (h : Sl w A xs.length c 1 (ints xs)) :
    Calls Try.prog 30 #[.slice A xs.length c, .int .i64 x] w fun e w' => e = .returned (.bool (decide (x ∈ xs))) ∧ w = w' := by
  have hm := h.nm
  have H := Lib.hid h
  clear h
  go_enter Try.func30, Try.ntmps30
  go_wp2
  go_loop [5] (fun i => ∃ k : Nat, k ≤ xs.length ∧ i = .int .i64 k ∧ x ∉ xs.take k) (fun i => xs.length - (intOf i).toNat)
  case atStart => exact ⟨0, Nat.zero_le _, rfl, by simp⟩
  case round =>
    obtain ⟨k, hk, rfl, hnot⟩ := hrel
    have HN := Lib.hid hnot
    clear hnot
    by_cases hlt : k < xs.length
    · obtain ⟨b, off, hA, hc⟩ := H.out.at' (by omega)
      clear H
      subst hA
      have he : xs[k]? = some xs[k] := by simp [hlt]
      have hd := hc k _ (ints_get he)
      clear he hc
      have HX := Lib.hid (notin_succ hlt HN.out)
      go_wp2
      · have he : xs[k] = x := by simpa using ‹(xs[k] == x) = true›
        go_ret
        exact ⟨ret_bool (decide_eq_true (by rw [← he]; exact List.getElem_mem hlt)).symm, rfl⟩
      · have he : ¬ xs[k] = x := by simpa using ‹(xs[k] == x) = false›
        go_round
        case rel => exact ⟨k+1, by omega, by go_num, HX.out he⟩
        case measure => simp [intOf]; omega
    · go_wp2
      go_ret
      refine ⟨ret_bool (decide_eq_false ?_).symm, rfl⟩
      have := HN.out
      rwa [List.take_of_length_le (by omega)] at this

set_option maxHeartbeats 1600000 in
theorem Right_any (w : World) (n : Int) (A : Option Addr) (c : Nat) (es : List (Int × Int)) (h : Sl w A es.length c 2 (edgeCells es)) :
    Calls Try.prog 81 #[.agg #[.int .i64 n, .slice A es.length c]] w fun e w' => e = .returned (.bool (rightB n es)) ∧ Below w.heap.size w w' := by
  have hm := h.nm
  have H := Lib.hid h
  clear h
  by_cases h1 : n < 0
  · have HF := Lib.hid (rightB_f1 (es := es) h1)
    go_enter Try.func81, Try.ntmps81
    go_wp2
    go_ret
    exact ⟨ret_bool HF.out.symm, below_alloc _ _⟩
  by_cases h2 : 1000 < n
  · have HF := Lib.hid (rightB_f2 (es := es) h2)
    go_enter Try.func81, Try.ntmps81
    go_wp2
    go_ret
    exact ⟨ret_bool HF.out.symm, below_alloc _ _⟩
  by_cases h3 : (4000 : Int) < es.length
  · have HF := Lib.hid (rightB_f3 (n := n) h3)
    go_enter Try.func81, Try.ntmps81
    go_wp2
    go_ret
    exact ⟨ret_bool HF.out.symm, below_alloc _ _⟩
  go_enter Try.func81, Try.ntmps81
  go_wp2
  go_loopw [3] (fun i wr => ∃ k : Nat, i = .int .i64 k ∧ k ≤ es.length ∧ (∀ j, j < k → okAt n es j = true) ∧ Below (w.heap.size+1) (w.alloc (.cells #[.int .i64 n, .slice A es.length c] 28)) wr) (fun i _ => es.length - (intOf i).toNat)
  case atStart => exact ⟨0, rfl, Nat.zero_le _, fun j hj => absurd hj (by omega), Below.refl _ _⟩
  case round =>
    obtain ⟨k, rfl, hk, hall, hb⟩ := hrel
    have HALL := Lib.hid hall
    have HB := Lib.hid (show Below w.heap.size w wr from (below_alloc _ _).trans (hb.mono (by omega)))
    have c0 : wr.cell? ⟨w.heap.size, 0, none⟩ = some (.int .i64 n) := by rw [hb.cell (by simp)]; simp
    have c1 : wr.cell? ⟨w.heap.size, 1, none⟩ = some (.slice A es.length c) := by rw [hb.cell (by simp)]; simp
    have hsz : w.heap.size < wr.heap.size := by have := hb.size; simp at this; omega
    have HBB := Lib.hid hb
    clear hall hb
    by_cases hlt : k < es.length
    · obtain ⟨b, off, hA, hc⟩ := H.out.at' (by omega)
      clear H
      subst hA
      have he : es[k]? = some es[k] := by simp [hlt]
      generalize es[k] = e at he
      obtain ⟨x, y⟩ := e
      have d0 := cell_keep HB.out (hc _ _ (edgeCells_get he).1)
      have d1 := cell_keep HB.out (hc _ _ (edgeCells_get he).2)
      have hbs : b < wr.heap.size := World.block_lt_of_cell? wr _ d0
      have HC := Lib.hid hc
      have HE := Lib.hid he
      clear hc he
      simp only [← Nat.add_assoc] at d0 d1
      by_cases t1 : x < 0
      · have HF := Lib.hid (rightB_false (n := n) hlt (okAt_f HE.out (.inl t1)))
        go_wp2
        go_ret
        exact ⟨ret_bool HF.out.symm, below_join HB.out (below_alloc _ _)⟩
      by_cases t2 : n ≤ y
      · have HF := Lib.hid (rightB_false (n := n) hlt (okAt_f HE.out (.inr (.inl t2))))
        go_wp2
        go_ret
        exact ⟨ret_bool HF.out.symm, below_join HB.out (below_alloc _ _)⟩
      by_cases t3 : y ≤ x
      · have HF := Lib.hid (rightB_false (n := n) hlt (okAt_f HE.out (.inr (.inr t3))))
        go_wp2
        go_ret
        exact ⟨ret_bool HF.out.symm, below_join HB.out (below_alloc _ _)⟩
      rcases Nat.eq_zero_or_pos k with k0 | k0
      · subst k0
        have HF := Lib.hid (okAt_0 HE.out t1 t2 t3)
        simp only [Nat.zero_mul, Nat.add_zero] at d0 d1
        go_wp2_with fail
        go_quiet (fail)
        go_wp2
        go_roundw
        case rel =>
          refine ⟨1, rfl, by omega, ?_, ?_⟩
          · intro j hj
            obtain rfl : j = 0 := by omega
            exact HF.out
          · exact below_dn (HBB.out.alloc (by omega) _) _
        case measure => simp [intOf]; omega
      · obtain ⟨m, rfl⟩ : ∃ m, k = m + 1 := ⟨k - 1, by omega⟩
        have hp : es[m]? = some es[m] := by simp [show m < es.length by omega]
        generalize es[m] = pp at hp
        obtain ⟨p, q⟩ := pp
        have HOK := Lib.hid (okAt_s HE.out hp t1 t2 t3)
        have p0 := cell_keep HB.out (HC.out _ _ (edgeCells_get hp).1)
        have p1 := cell_keep HB.out (HC.out _ _ (edgeCells_get hp).2)
        simp only [← Nat.add_assoc] at p0 p1
        clear hp
        have b1 : ((m : Int) + 1 > 0) := by omega
        by_cases t4 : x < p
        · have HF := Lib.hid (rightB_false (n := n) hlt (HOK.out.trans (show ltEdge (p, q) (x, y) = false by simp [ltEdge]; omega)))
          go_wp2_with fail
          go_quiet (fail)
          go_wp2
          go_ret
          exact ⟨ret_bool HF.out.symm, below_join HB.out (below_dn (below_alloc _ _) _)⟩
        by_cases t5 : p = x
        · subst t5
          by_cases t6 : y ≤ q
          · have HF := Lib.hid (rightB_false (n := n) hlt (HOK.out.trans (show ltEdge (p, q) (p, y) = false by simp [ltEdge]; omega)))
            go_wp2_with fail
            go_quiet (fail)
            go_wp2
            go_ret
            exact ⟨ret_bool HF.out.symm, below_join HB.out (below_dn (below_alloc _ _) _)⟩
          · have HF := Lib.hid (HOK.out.trans (show ltEdge (p, q) (p, y) = true by simp [ltEdge]; omega))
            go_wp2_with fail
            go_quiet (fail)
            go_wp2
            go_roundw
            case rel =>
              refine ⟨m + 1 + 1, by go_num, by omega, ?_, below_dn (HBB.out.alloc (by omega) _) _⟩
              intro j hj
              by_cases hj' : j = m + 1
              · rw [hj']; exact HF.out
              · exact HALL.out j (by omega)
            case measure => simp [intOf]; omega
        · have HF := Lib.hid (HOK.out.trans (show ltEdge (p, q) (x, y) = true by simp [ltEdge]; omega))
          have t7 : (p == x) = false := by simpa using t5
          have t8 : decide (x < p) = false := by simpa using t4
          go_wp2_with fail
          go_quiet (fail)
          go_wp2
          go_roundw
          case rel =>
            refine ⟨m + 1 + 1, by go_num, by omega, ?_, below_dn (HBB.out.alloc (by omega) _) _⟩
            intro j hj
            by_cases hj' : j = m + 1
            · rw [hj']; exact HF.out
            · exact HALL.out j (by omega)
          case measure => simp [intOf]; omega
    · go_wp2
      go_ret
      exact ⟨ret_bool (rightB_true (by omega) (by omega) (by omega) fun j hj => HALL.out j (by omega)).symm, HB.out⟩

end Go.Proofs.Ytcbojlidfabgeaa
