/- The program's layer 10: without, with, step. Conditions: at most 1000 vertices. -/
import Derived.Test.YtcbojlidfabgeaaH1
import Derived.Test.YtcbojlidfabgeaaH2
namespace Go.Proofs.Ytcbojlidfabgeaa
open Go.RowKit
set_option linter.unusedVariables false
set_option linter.unusedSimpArgs false

theorem le_of_lt_pw {u : List Int} (h : u.Pairwise (· < ·)) : u.Pairwise (· ≤ ·) := h.imp fun h => by omega
theorem own_draw {w : World} {base : Nat} {e : TypeId} {sz n : Nat} {v : Value} {xs : List Value} (h : w.ownsRow base e sz v n xs) (q : Nat) : (w.drewN q).ownsRow base e sz v n xs := own_below h (below_drewN w q)
theorem contains_dec (u : List Int) (x : Int) : u.contains x = decide (x ∈ u) := by
  rw [Bool.eq_iff_iff]; simp
/-- Of a rising row: how many lie below x is where x lies. -/
theorem count_at {u : List Int} (h : u.Pairwise (· < ·)) (x : Int) : u.take (u.countP (· < x)) = u.filter (· < x) ∧ u.drop (u.countP (· < x)) = u.filter (fun y => !decide (y < x)) := by
  induction u with
  | nil => simp
  | cons a u ih =>
    rw [List.pairwise_cons] at h
    obtain ⟨i1, i2⟩ := ih h.2
    by_cases ha : a < x
    · rw [List.countP_cons_of_pos (by simpa using ha), List.take_succ_cons, List.drop_succ_cons, i1, i2]
      simp [ha]
    · have hz : u.countP (fun y => decide (y < x)) = 0 := by
        rw [List.countP_eq_zero]
        intro y hy
        have := h.1 y hy
        simp; omega
      rw [List.countP_cons_of_neg (by simpa using ha), hz]
      have hf : u.filter (fun y => decide (y < x)) = [] := by
        rw [List.filter_eq_nil_iff]
        intro y hy
        have := h.1 y hy
        simp; omega
      have hg : u.filter (fun y => !decide (y < x)) = u := by
        rw [List.filter_eq_self]
        intro y hy
        have := h.1 y hy
        simp; omega
      simp [ha, hf, hg]
theorem erase_at {u : List Int} (h : u.Pairwise (· < ·)) {x : Int} (hx : x ∈ u) : u.countP (· < x) < u.length ∧ u.eraseIdx (u.countP (· < x)) = u.filter (fun y => decide (y ≠ x)) := by
  induction u with
  | nil => cases hx
  | cons a u ih =>
    rw [List.pairwise_cons] at h
    by_cases ha : a < x
    · have hx' : x ∈ u := by
        rcases List.mem_cons.1 hx with e | e
        · omega
        · exact e
      obtain ⟨i1, i2⟩ := ih h.2 hx'
      rw [List.countP_cons_of_pos (by simpa using ha), List.eraseIdx_cons_succ, i2]
      refine ⟨by simp; omega, ?_⟩
      have : a ≠ x := by omega
      simp [this]
    · have hax : a = x := by
        rcases List.mem_cons.1 hx with e | e
        · exact e.symm
        · have := h.1 x e; omega
      subst hax
      have hz : u.countP (fun y => decide (y < a)) = 0 := by
        rw [List.countP_eq_zero]
        intro y hy
        have := h.1 y hy
        simp; omega
      rw [List.countP_cons_of_neg (by simp), hz]
      refine ⟨by simp, ?_⟩
      have hg : u.filter (fun y => decide (y ≠ a)) = u := by
        rw [List.filter_eq_self]
        intro y hy
        have := h.1 y hy
        simp; omega
      simp only [List.eraseIdx_cons_zero]
      rw [List.filter_cons_of_neg (by simp), hg]
def minusL (u : List Int) (x : Int) : List Int := u.filter fun y => decide (y ≠ x)
def plusL (u : List Int) (x : Int) : List Int := u.filter (· < x) ++ x :: u.filter (fun y => !decide (y < x))
set_option maxHeartbeats 1600000 in
theorem without_any (w : World) (A : Option Addr) (c base : Nat) (u : List Int) (x : Int) (h : w.ownsRow base 3 1 (.slice A u.length c) u.length (ints u)) (hs : u.Pairwise (· < ·)) (hn : u.length ≤ 1000000) :
    Calls Try.prog 90 #[.slice A u.length c, .int .i64 x] w fun e w' => e = .returned (.slice A (minusL u x).length c) ∧ w'.ownsRow base 3 1 (.slice A (minusL u x).length c) (minusL u x).length (ints (minusL u x)) ∧ w.grownBy w' (Value.slice A u.length c).ownBlock := by
  have H := Lib.hid h
  have HS := Lib.hid hs
  have hm := (Sl.of_own' h).nm
  have hci := List.countP_le_length (p := fun y => decide (y < x)) (l := u)
  clear h hs
  by_cases hx : x ∈ u
  · have HC := Lib.hid (show u.contains x = true by rw [contains_dec]; simpa using hx)
    obtain ⟨hlt, he⟩ := erase_at HS.out hx
    have HE := Lib.hid he
    have HL := Lib.hid (show (minusL u x).length = u.length - 1 by rw [minusL, ← he, List.length_eraseIdx_of_lt hlt])
    clear he hx
    go_enter Try.func90, Try.ntmps90
    go_wp2_with (first | (go_at_call 62; refine (BinS _ A c u x (Sl.of_own' H.out) (le_of_lt_pw HS.out) hn).mono ?_; rintro e w1 ⟨rfl, q, rfl⟩; rw [HC.out]) | (go_at_call 113; refine (DelS _ A c base u (u.countP fun y => decide (y < x)) (own_draw H.out q) hlt).mono ?_; rintro e w2 ⟨rfl, hown2, hgrow2⟩; have HO2 := Lib.hid hown2; have HG2 := Lib.hid hgrow2; clear hown2 hgrow2))
    go_ret
    rw [HL.out]
    exact ⟨rfl, by have := HO2.out; rw [HE.out] at this; exact this, grownBy_trans (grownBy_of_below (below_drewN w q) _) HG2.out⟩
  · have HC := Lib.hid (show u.contains x = false by rw [contains_dec]; simpa using hx)
    have HE := Lib.hid (show minusL u x = u by
      rw [minusL, List.filter_eq_self]
      intro y hy
      simp only [decide_eq_true_eq]
      intro e; subst e; exact hx hy)
    clear hx
    go_enter Try.func90, Try.ntmps90
    go_wp2_with (first | (go_at_call 62; refine (BinS _ A c u x (Sl.of_own' H.out) (le_of_lt_pw HS.out) hn).mono ?_; rintro e w1 ⟨rfl, q, rfl⟩; rw [HC.out]))
    go_ret
    rw [HE.out]
    exact ⟨rfl, own_draw H.out q, grownBy_of_below (below_drewN w q) _⟩
set_option maxHeartbeats 1600000 in
theorem with_any (w : World) (A : Option Addr) (c base : Nat) (u : List Int) (x : Int) (h : w.ownsRow base 3 1 (.slice A u.length c) u.length (ints u)) (hs : u.Pairwise (· < ·)) (hn : u.length ≤ 1000000) (hbase : base ≤ w.heap.size) :
    Calls Try.prog 91 #[.slice A u.length c, .int .i64 x] w fun e w' => ∃ A' c', e = .returned (.slice A' (u.length + 1) c') ∧ w'.ownsRow base 3 1 (.slice A' (u.length + 1) c') (u.length + 1) (ints (plusL u x)) ∧ w.grownBy w' (Value.slice A u.length c).ownBlock ∧
      ((Value.slice A' (u.length + 1) c').ownBlock = (Value.slice A u.length c).ownBlock ∨ ∃ k, (Value.slice A' (u.length + 1) c').ownBlock = some k ∧ w.heap.size ≤ k) := by
  have H := Lib.hid h
  have HS := Lib.hid hs
  have hm := (Sl.of_own' h).nm
  have hci := List.countP_le_length (p := fun y => decide (y < x)) (l := u)
  have HP := Lib.hid (show insL u (u.countP fun y => decide (y < x)) x = plusL u x by
    obtain ⟨h1, h2⟩ := count_at hs x
    rw [insL, plusL, h1, h2])
  clear h hs
  go_enter Try.func91, Try.ntmps91
  go_wp2_with (first | (go_at_call 62; refine (BinS _ A c u x (Sl.of_own' H.out) (le_of_lt_pw HS.out) hn).mono ?_; rintro e w1 ⟨rfl, q, rfl⟩) | (go_at_call 114; refine (InsS _ A c base u (u.countP fun y => decide (y < x)) x w.heap.size (own_below H.out (below_join (below_drewN w q) (below_alloc _ _))) hci hn (by rw [World.size_alloc]; exact Nat.le_trans hbase (Nat.le_succ _)) (heap_alloc_new (w.drewN q) _) (fun hk => by have := H.out.lt _ hk; omega)).mono ?_; rintro e w2 ⟨A2, c2, rfl, hown2, hgrow2, hat2⟩; have HO2 := Lib.hid hown2; have HG2 := Lib.hid hgrow2; have HA2 := Lib.hid hat2; clear hown2 hgrow2 hat2))
  go_ret
  refine ⟨A2, c2, rfl, by have := HO2.out; rw [HP.out] at this; exact this, grownBy_trans (grownBy_of_below (below_join (below_drewN w q) (below_alloc _ _)) _) HG2.out, ?_⟩
  rcases HA2.out with h1 | ⟨k, h1, h2⟩
  · exact .inl h1
  · exact .inr ⟨k, h1, Nat.le_trans (Nat.le_succ _) (by rw [World.size_alloc] at h2; exact h2)⟩
end Go.Proofs.Ytcbojlidfabgeaa
