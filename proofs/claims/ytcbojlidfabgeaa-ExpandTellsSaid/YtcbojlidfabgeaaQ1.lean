/- Plain lemmas for the making of a right graph out of a list of pairs. Conditions: none. -/
import Derived.Test.YtcbojlidfabgeaaR3
namespace Go.Proofs.Ytcbojlidfabgeaa
set_option linter.unusedVariables false
set_option linter.unusedSimpArgs false

def inR (N : Int) (es : List (Int × Int)) : Prop := ∀ e ∈ es, 0 ≤ e.1 ∧ e.1 < N ∧ 0 ≤ e.2 ∧ e.2 < N
/-- Two stand beside each other in the list, either way round. -/
def both (l : List (Int × Int)) (x y : Int) : Prop := (x, y) ∈ l ∨ (y, x) ∈ l
theorem both_comm {l : List (Int × Int)} {x y : Int} : both l x y ↔ both l y x := by unfold both; constructor <;> (rintro (h | h); exact .inr h; exact .inl h)

structure UpInv (N k : Nat) (l : List (Int × Int)) (U : List (List Int)) : Prop where
  len : U.length = N
  nodup : ∀ (a : Nat) (u : List Int), U[a]? = some u → u.Nodup
  mem : ∀ (a : Nat) (u : List Int), U[a]? = some u → ∀ b : Int, b ∈ u ↔ (a : Int) < b ∧ both (l.take k) a b
  sum : (U.map List.length).sum ≤ k

theorem UpInv.start (N : Nat) (l : List (Int × Int)) : UpInv N 0 l (List.replicate N []) := by
  refine ⟨by simp, ?_, ?_, by simp⟩
  · intro a u h
    rw [List.getElem?_replicate] at h
    split at h
    · injection h with h; subst h; exact List.nodup_nil
    · cases h
  · intro a u h b
    rw [List.getElem?_replicate] at h
    split at h
    · injection h with h; subst h; simp [both]
    · cases h
theorem take_both {l : List (Int × Int)} {k : Nat} {x y a b : Int} (h : l[k]? = some (x, y)) : both (l.take (k + 1)) a b ↔ both (l.take k) a b ∨ (a = x ∧ b = y) ∨ (a = y ∧ b = x) := by
  obtain ⟨hk, he⟩ := List.getElem?_eq_some_iff.1 h
  rw [List.take_succ_eq_append_getElem hk, he]
  unfold both
  simp only [List.mem_append, List.mem_singleton, Prod.mk.injEq]
  constructor
  · rintro ((h | h) | (h | h))
    · exact .inl (.inl h)
    · exact .inr (.inl h)
    · exact .inl (.inr h)
    · exact .inr (.inr ⟨h.2, h.1⟩)
  · rintro ((h | h) | h | h)
    · exact .inl (.inl h)
    · exact .inr (.inl h)
    · exact .inl (.inr h)
    · exact .inr (.inr ⟨h.2, h.1⟩)
theorem UpInv.same {N k : Nat} {l : List (Int × Int)} {U : List (List Int)} (h : UpInv N k l U) {x : Int} (hl : l[k]? = some (x, x)) : UpInv N (k + 1) l U := by
  refine ⟨h.len, h.nodup, ?_, by have := h.sum; omega⟩
  intro a u hu b
  rw [h.mem a u hu b, take_both hl]
  constructor
  · rintro ⟨h1, h2⟩; exact ⟨h1, .inl h2⟩
  · rintro ⟨h1, h2 | ⟨rfl, rfl⟩ | ⟨rfl, rfl⟩⟩
    · exact ⟨h1, h2⟩
    · omega
    · omega
theorem UpInv.has {N k : Nat} {l : List (Int × Int)} {U : List (List Int)} (h : UpInv N k l U) {x y : Int} (hl : l[k]? = some (x, y)) {lo : Nat} (hlo : (lo : Int) = min x y) {u : List Int} (hu : U[lo]? = some u) (hin : max x y ∈ u) : UpInv N (k + 1) l U := by
  refine ⟨h.len, h.nodup, ?_, by have := h.sum; omega⟩
  have hb := (h.mem lo u hu _).1 hin
  intro a v hv b
  rw [h.mem a v hv b, take_both hl]
  constructor
  · rintro ⟨h1, h2⟩; exact ⟨h1, .inl h2⟩
  · rintro ⟨h1, h2 | ⟨h2, h3⟩ | ⟨h2, h3⟩⟩
    · exact ⟨h1, h2⟩
    · refine ⟨h1, ?_⟩
      have e1 : (lo : Int) = a := by omega
      have e2 : max x y = b := by omega
      have := hb.2; rw [e1, e2] at this; exact this
    · refine ⟨h1, ?_⟩
      have e1 : (lo : Int) = a := by omega
      have e2 : max x y = b := by omega
      have := hb.2; rw [e1, e2] at this; exact this
theorem sum_set (U : List (List Int)) (i : Nat) (u v : List Int) (h : U[i]? = some u) (hv : v.length = u.length + 1) : ((U.set i v).map List.length).sum = (U.map List.length).sum + 1 := by
  induction U generalizing i with
  | nil => simp at h
  | cons a l ih =>
    cases i with
    | zero => simp at h; subst h; simp [hv]; omega
    | succ i => simp at h; have := ih i h; simp only [List.set_cons_succ, List.map_cons, List.sum_cons]; omega
theorem UpInv.add {N k : Nat} {l : List (Int × Int)} {U : List (List Int)} (h : UpInv N k l U) {x y : Int} (hl : l[k]? = some (x, y)) (hxy : x ≠ y) {lo : Nat} (hlo : (lo : Int) = min x y) {u : List Int} (hu : U[lo]? = some u) (hin : ¬ max x y ∈ u) :
    UpInv N (k + 1) l (U.set lo (u ++ [max x y])) := by
  refine ⟨by simpa using h.len, ?_, ?_, by rw [sum_set U lo u _ hu (by simp)]; have := h.sum; omega⟩
  · intro a v hv
    by_cases ha : a = lo
    · subst ha
      rw [List.getElem?_set_self (List.getElem?_eq_some_iff.1 hu).1] at hv
      injection hv with hv; subst hv
      rw [List.nodup_append]
      refine ⟨h.nodup _ _ hu, by simp, ?_⟩
      intro p hp q hq
      rw [List.mem_singleton] at hq
      subst hq
      intro e; subst e; exact hin hp
    · rw [List.getElem?_set_ne (Ne.symm ha)] at hv
      exact h.nodup _ _ hv
  · intro a v hv b
    rw [take_both hl]
    by_cases ha : a = lo
    · subst ha
      rw [List.getElem?_set_self (List.getElem?_eq_some_iff.1 hu).1] at hv
      injection hv with hv; subst hv
      rw [List.mem_append, List.mem_singleton, h.mem _ _ hu b]
      constructor
      · rintro (⟨h1, h2⟩ | rfl)
        · exact ⟨h1, .inl h2⟩
        · refine ⟨by omega, .inr ?_⟩; omega
      · rintro ⟨h1, h2 | h2⟩
        · exact .inl ⟨h1, h2⟩
        · right; omega
    · rw [List.getElem?_set_ne (Ne.symm ha)] at hv
      rw [h.mem _ _ hv b]
      constructor
      · rintro ⟨h1, h2⟩; exact ⟨h1, .inl h2⟩
      · rintro ⟨h1, h2 | h2⟩
        · exact ⟨h1, h2⟩
        · omega

/-- The edges so far: of the vertices below a, and of a those whose other end is among zs. -/
structure EsInv (a : Nat) (l : List (Int × Int)) (zs : List Int) (es : List (Int × Int)) : Prop where
  sorted : es.Pairwise (fun e f => ltEdge e f = true)
  mem : ∀ x y, (x, y) ∈ es ↔ (0 ≤ x ∧ x < a ∧ x < y ∧ both l x y) ∨ (x = a ∧ y ∈ zs)
theorem EsInv.start (l : List (Int × Int)) : EsInv 0 l [] [] := ⟨List.Pairwise.nil, fun x y => by simp; omega⟩
theorem EsInv.add {a : Nat} {l : List (Int × Int)} {zs : List Int} {es : List (Int × Int)} (h : EsInv a l zs es) {z : Int} (hz : ∀ y ∈ zs, y < z) : EsInv a l (zs ++ [z]) (es ++ [((a : Int), z)]) := by
  refine ⟨?_, ?_⟩
  · rw [List.pairwise_append]
    refine ⟨h.sorted, by simp, ?_⟩
    rintro ⟨x, y⟩ hx f hf
    rw [List.mem_singleton] at hf
    subst hf
    rcases (h.mem x y).1 hx with h1 | ⟨rfl, h1⟩
    · simp [ltEdge]; omega
    · have := hz y h1
      simp [ltEdge]; omega
  · intro x y
    rw [List.mem_append, List.mem_singleton, h.mem, List.mem_append, List.mem_singleton, Prod.mk.injEq]
    constructor
    · rintro ((h1 | h1) | ⟨rfl, rfl⟩)
      · exact .inl h1
      · exact .inr ⟨h1.1, .inl h1.2⟩
      · exact .inr ⟨rfl, .inr rfl⟩
    · rintro (h1 | ⟨rfl, h1 | rfl⟩)
      · exact .inl (.inl h1)
      · exact .inl (.inr ⟨rfl, h1⟩)
      · exact .inr ⟨rfl, rfl⟩
theorem EsInv.next {a : Nat} {l : List (Int × Int)} {zs : List Int} {es : List (Int × Int)} (h : EsInv a l zs es) (hz : ∀ y : Int, y ∈ zs ↔ (a : Int) < y ∧ both l a y) : EsInv (a + 1) l [] es := by
  refine ⟨h.sorted, ?_⟩
  intro x y
  rw [h.mem]
  constructor
  · rintro (h1 | ⟨rfl, h1⟩)
    · exact .inl ⟨h1.1, by omega, h1.2.2⟩
    · have := (hz y).1 h1; exact .inl ⟨by omega, by omega, this⟩
  · rintro (⟨h1, h2, h3⟩ | ⟨_, h1⟩)
    · by_cases hx : x = a
      · subst hx; exact .inr ⟨rfl, (hz y).2 h3⟩
      · exact .inl ⟨h1, by omega, h3⟩
    · cases h1
theorem right_of {N : Nat} {l es : List (Int × Int)} (hN : N ≤ 1000) (hin : inR N l) (h : EsInv N l [] es) (hle : es.length ≤ 4000) : rightB N es = true ∧ ∀ x y, (x, y) ∈ es ↔ x < y ∧ both l x y := by
  have hm : ∀ x y, (x, y) ∈ es ↔ x < y ∧ both l x y := by
    intro x y
    rw [h.mem]
    constructor
    · rintro (h1 | ⟨_, h1⟩)
      · exact h1.2.2
      · cases h1
    · rintro ⟨h1, h2⟩
      left
      rcases h2 with h2' | h2'
      · have := hin _ h2'; simp at this; exact ⟨by omega, by omega, h1, .inl h2'⟩
      · have := hin _ h2'; simp at this; exact ⟨by omega, by omega, h1, .inr h2'⟩
  refine ⟨rightB_true (by omega) (by omega) hle ?_, hm⟩
  intro j hj
  have he : es[j]? = some es[j] := by simp [hj]
  have hme : es[j] ∈ es := List.getElem_mem hj
  generalize hE : es[j] = e at he hme
  obtain ⟨x, y⟩ := e
  have hxy := (h.mem x y).1 hme
  have hR : 0 ≤ x ∧ y < N ∧ x < y := by
    rcases hxy with h1 | ⟨_, h1⟩
    · refine ⟨h1.1, ?_, h1.2.2.1⟩
      rcases h1.2.2.2 with h2 | h2
      · have := hin _ h2; simp at this; omega
      · have := hin _ h2; simp at this; omega
    · cases h1
  rcases Nat.eq_zero_or_pos j with h0 | h0
  · subst h0; exact okAt_0 he (by omega) (by omega) (by omega)
  · obtain ⟨m, rfl⟩ : ∃ m, j = m + 1 := ⟨j - 1, by omega⟩
    have hp : es[m]? = some es[m] := by simp [show m < es.length by omega]
    have hs := List.pairwise_iff_getElem.1 h.sorted m (m + 1) (by omega) hj (by omega)
    rw [hE] at hs
    generalize es[m] = p at hp hs
    obtain ⟨p, q⟩ := p
    rw [okAt_s he hp (by omega) (by omega) (by omega)]
    exact hs
theorem sum_take_succ {U : List (List Int)} {a : Nat} {u : List Int} (h : U[a]? = some u) : ((U.take (a + 1)).map List.length).sum = ((U.take a).map List.length).sum + u.length := by
  obtain ⟨hk, he⟩ := List.getElem?_eq_some_iff.1 h
  rw [List.take_succ_eq_append_getElem hk, he]; simp
theorem sum_take_le (U : List (List Int)) (a : Nat) : ((U.take a).map List.length).sum ≤ (U.map List.length).sum := by
  induction U generalizing a with
  | nil => simp
  | cons x l ih =>
    cases a with
    | zero => simp
    | succ a => have := ih a; simp only [List.take_succ_cons, List.map_cons, List.sum_cons]; omega
theorem len_le_sum {U : List (List Int)} {i : Nat} {u : List Int} (h : U[i]? = some u) : u.length ≤ (U.map List.length).sum := by
  have h1 := sum_take_succ h
  have h2 := sum_take_le U (i + 1)
  omega
theorem sorted_strict {ys : List Int} (h : ys.Pairwise (· ≤ ·)) (hn : ys.Nodup) : ys.Pairwise (· < ·) := by
  have := List.pairwise_iff_getElem.1 h
  have h2 := List.pairwise_iff_getElem.1 hn
  rw [List.pairwise_iff_getElem]
  intro i j hi hj hij
  have := this i j hi hj hij
  have := h2 i j hi hj hij
  omega
theorem take_lt {ys : List Int} (h : ys.Pairwise (· < ·)) {j : Nat} {y : Int} (hy : ys[j]? = some y) : ∀ z ∈ ys.take j, z < y := by
  intro z hz
  obtain ⟨i, hi⟩ := List.mem_iff_getElem?.1 hz
  rw [List.getElem?_take] at hi
  split at hi
  · obtain ⟨h1, h2⟩ := List.getElem?_eq_some_iff.1 hi
    obtain ⟨h3, h4⟩ := List.getElem?_eq_some_iff.1 hy
    have := List.pairwise_iff_getElem.1 h i j h1 h3 (by omega)
    omega
  · cases hi
theorem take_snoc' {ys : List Int} {j : Nat} {y : Int} (hy : ys[j]? = some y) : ys.take (j + 1) = ys.take j ++ [y] := by
  obtain ⟨h3, h4⟩ := List.getElem?_eq_some_iff.1 hy
  rw [List.take_succ_eq_append_getElem h3, h4]

end Go.Proofs.Ytcbojlidfabgeaa
