/- Plain law: what an edge stands for, by the list of paths and by the steps from the last. Conditions: steps of a right graph that can all be done. -/
import Derived.Test.YtcbojlidfabgeaaR11c
namespace Go.Proofs.Ytcbojlidfabgeaa
set_option linter.unusedVariables false
set_option linter.unusedSimpArgs false

/-- The step added an edge of these two. -/
def pairB (t : Stp) (a b : Int) : Bool := t.added && (t.a == a && t.b == b || t.a == b && t.b == a)
theorem pairB_comm (t : Stp) (a b : Int) : pairB t a b = pairB t b a := by unfold pairB; rw [Bool.or_comm (t.a == a && t.b == b)]
theorem pairB_iff {t : Stp} {a b : Int} : pairB t a b = true ↔ t.added = true ∧ ((t.a = a ∧ t.b = b) ∨ (t.a = b ∧ t.b = a)) := by simp [pairB]
/-- What stands between the ends, of steps from the last on. -/
def innR : List Stp → Int → Int → List Int
  | [], _, _ => []
  | t :: r, a, b => if pairB t a b then innR r a t.v ++ t.v :: innR r t.v b else innR r a b
def hasR (es : List (Int × Int)) (r : List Stp) (a b : Int) : Bool := decide (both es a b) || r.any fun t => pairB t a b
def GoodR (es : List (Int × Int)) : List Stp → Prop
  | [] => True
  | t :: r => GoodR es r ∧ (t.added = true → t.a < t.b ∧ t.v ≠ t.a ∧ t.v ≠ t.b ∧ hasR es r t.a t.v = true ∧ hasR es r t.v t.b = true ∧ hasR es r t.a t.b = false ∧ ∀ u ∈ r, u.v ≠ t.a ∧ u.v ≠ t.b)
theorem hasR_comm (es : List (Int × Int)) (r : List Stp) (a b : Int) : hasR es r a b = hasR es r b a := by
  unfold hasR
  have h1 : decide (both es a b) = decide (both es b a) := decide_eq_decide.2 both_comm
  rw [h1]
  congr 2
  funext t
  exact pairB_comm t a b
theorem hasR_cons (es : List (Int × Int)) (t : Stp) (r : List Stp) (a b : Int) : hasR es (t :: r) a b = (pairB t a b || hasR es r a b) := by
  simp only [hasR, List.any_cons]
  cases decide (both es a b) <;> cases pairB t a b <;> simp
theorem innR_rev (r : List Stp) (a b : Int) : (innR r a b).reverse = innR r b a := by
  induction r generalizing a b with
  | nil => rfl
  | cons t r ih =>
    unfold innR
    rw [pairB_comm t b a]
    split
    · simp [ih]
    · exact ih a b
theorem findS_append (xs ys : List (List Int)) (hne : ∀ p ∈ xs, p ≠ []) (a b : Int) : findS (xs ++ ys) a b = if findS xs a b = [] then findS ys a b else findS xs a b := by
  induction xs with
  | nil => simp [findS]
  | cons p xs ih =>
    have hp := hne p (by simp)
    rw [List.cons_append]
    simp only [findS]
    split
    · first | rfl | simp [hp]
    · split
      · first | rfl | simp [hp]
      · exact ih fun q hq => hne q (List.mem_cons_of_mem _ hq)
theorem ends_mid (x y a b : Int) (l : List Int) : endsAt (x :: (l ++ [y])) a b = (x == a && y == b) := by
  unfold endsAt
  have h1 : (x :: (l ++ [y])).getLast? = some y := by
    have : x :: (l ++ [y]) = (x :: l) ++ [y] := by simp
    rw [this, List.getLast?_concat]
  rw [h1]; rfl
theorem findS_one (x y a b : Int) (l : List Int) : findS [x :: (l ++ [y])] a b = if (x == a && y == b) = true then x :: (l ++ [y]) else if (x == b && y == a) = true then y :: (l.reverse ++ [x]) else [] := by
  simp only [findS, ends_mid]
  split
  · rfl
  · split
    · simp
    · rfl
theorem find_edges (es : List (Int × Int)) (a b : Int) : findS (edgePaths es) a b = if both es a b then [a, b] else [] := by
  induction es with
  | nil => simp [edgePaths, findS, both]
  | cons e es ih =>
    obtain ⟨x, y⟩ := e
    have h1 := findS_one x y a b []
    simp only [edgePaths, List.map_cons, findS] at ih ⊢
    have e1 : endsAt [x, y] a b = (x == a && y == b) := ends_mid x y a b []
    have e2 : endsAt [x, y] b a = (x == b && y == a) := ends_mid x y b a []
    rw [e1, e2]
    by_cases g1 : x = a ∧ y = b
    · obtain ⟨rfl, rfl⟩ := g1
      rw [if_pos (by simp), if_pos (by simp [both])]
    · rw [if_neg (by simpa using g1)]
      by_cases g2 : x = b ∧ y = a
      · obtain ⟨rfl, rfl⟩ := g2
        rw [if_pos (by simp), if_pos (by simp [both])]; rfl
      · rw [if_neg (by simpa using g2), ih]
        have : both ((x, y) :: es) a b ↔ both es a b := by
          unfold both
          simp only [List.mem_cons, Prod.mk.injEq]
          constructor
          · rintro ((h | h) | (h | h))
            · exact absurd ⟨h.1.symm, h.2.symm⟩ g1
            · exact .inl h
            · exact absurd ⟨h.1.symm, h.2.symm⟩ g2
            · exact .inr h
          · rintro (h | h)
            · exact .inl (.inr h)
            · exact .inr (.inr h)
        by_cases g3 : both es a b
        · rw [if_pos g3, if_pos (this.2 g3)]
        · rw [if_neg g3, if_neg (fun h => g3 (this.1 h))]
theorem paths_rev_cons (es : List (Int × Int)) (t : Stp) (r : List Stp) : pathsS es (t :: r).reverse = stepPaths (pathsS es r.reverse) t := by
  rw [List.reverse_cons, pathsS_snoc]
/-- What an edge stands for: its ends, and what the steps from the last on put between. -/
def edgeR (es : List (Int × Int)) (r : List Stp) (a b : Int) : List Int := if hasR es r a b then a :: (innR r a b ++ [b]) else []
theorem edgeR_one {es : List (Int × Int)} {r : List Stp} {a b : Int} (h : hasR es r a b = true) : edgeR es r a b = a :: (innR r a b ++ [b]) := if_pos h
theorem edgeR_none {es : List (Int × Int)} {r : List Stp} {a b : Int} (h : hasR es r a b = false) : edgeR es r a b = [] := by simp [edgeR, h]
theorem find_paths (es : List (Int × Int)) (hlt : ∀ e ∈ es, e.1 < e.2) (r : List Stp) (hg : GoodR es r) : (∀ p ∈ pathsS es r.reverse, p ≠ []) ∧ ∀ a b, findS (pathsS es r.reverse) a b = edgeR es r a b := by
  induction r with
  | nil =>
    refine ⟨?_, fun a b => ?_⟩
    · intro p hp
      simp only [pathsS, List.reverse_nil, List.foldl_nil, edgePaths, List.mem_map] at hp
      obtain ⟨e, _, rfl⟩ := hp
      simp
    · simp only [pathsS, List.reverse_nil, List.foldl_nil, find_edges, edgeR, hasR, List.any_nil, Bool.or_false, decide_eq_true_eq, innR, List.nil_append]
  | cons t r ih =>
    obtain ⟨hg, ht⟩ := hg
    obtain ⟨ih1, ih2⟩ := ih hg
    rw [paths_rev_cons]
    unfold stepPaths
    cases hadd : t.added
    · have hp : ∀ a b, pairB t a b = false := fun a b => by simp [pairB, hadd]
      refine ⟨ih1, fun a b => ?_⟩
      simp only [hadd, Bool.false_eq_true, if_false]
      rw [ih2, edgeR, edgeR, hasR_cons, hp]
      simp [innR, hp]
    · obtain ⟨h1, h2, h3, h4, h5, h6, h7⟩ := ht hadd
      simp only [if_true]
      have hP : findS (pathsS es r.reverse) t.a t.v ++ (findS (pathsS es r.reverse) t.v t.b).drop 1 = t.a :: ((innR r t.a t.v ++ t.v :: innR r t.v t.b) ++ [t.b]) := by
        rw [ih2, ih2, edgeR_one h4, edgeR_one h5]
        simp
      rw [hP]
      refine ⟨?_, fun a b => ?_⟩
      · intro p hp
        rcases List.mem_append.1 hp with hp | hp
        · exact ih1 p hp
        · rw [List.mem_singleton] at hp; subst hp; simp
      · rw [findS_append _ _ ih1, ih2, findS_one]
        cases hpair : pairB t a b
        · have hnp := hpair
          rw [← Bool.not_eq_true, pairB_iff] at hnp
          have k1 : (t.a == a && t.b == b) = false := by
            rw [← Bool.not_eq_true]; intro h; simp at h; exact hnp ⟨hadd, .inl h⟩
          have k2 : (t.a == b && t.b == a) = false := by
            rw [← Bool.not_eq_true]; intro h; simp at h; exact hnp ⟨hadd, .inr h⟩
          rw [k1, k2]
          simp only [Bool.false_eq_true, if_false]
          have : edgeR es (t :: r) a b = edgeR es r a b := by
            rw [edgeR, edgeR, hasR_cons, hpair]
            simp [innR, hpair]
          rw [this]
          split
          · rename_i h; exact h.symm
          · rfl
        · obtain ⟨_, hc⟩ := pairB_iff.1 hpair
          have hno : edgeR es r a b = [] := by
            apply edgeR_none
            rcases hc with ⟨rfl, rfl⟩ | ⟨rfl, rfl⟩
            · exact h6
            · rw [hasR_comm]; exact h6
          rw [if_pos hno]
          have hyes : edgeR es (t :: r) a b = a :: ((innR r a t.v ++ t.v :: innR r t.v b) ++ [b]) := by
            rw [edgeR_one (by rw [hasR_cons, hpair]; rfl), innR, hpair]; rfl
          rw [hyes]
          rcases hc with ⟨rfl, rfl⟩ | ⟨rfl, rfl⟩
          · rw [if_pos (by simp)]
          · have hne : t.a ≠ t.b := by omega
            rw [if_neg (by simp [hne]), if_pos (by simp)]
            simp [innR_rev]

/-! The steps of a replay are good. -/
def goAll (N : Nat) (s : St) (l : List Stp) : St := l.foldl (fun s t => goS N s t.v.toNat) s
theorem replay_split {N : Nat} {l1 : List Stp} {t : Stp} {l2 : List Stp} {s : St} (h : (replayS N s (l1 ++ t :: l2)).2 = true) :
    (replayS N s l1).2 = true ∧ mayS N (goAll N s l1) t.v = true ∧ stepS N (goAll N s l1) t.v.toNat = t := by
  induction l1 generalizing s with
  | nil =>
    simp only [List.nil_append, replayS] at h
    split at h
    · rename_i hc
      simp only [Bool.and_eq_true] at hc
      exact ⟨rfl, hc.1, (eqStp_iff _ _).1 hc.2⟩
    · cases h
  | cons u l1 ih =>
    simp only [List.cons_append, replayS] at h ⊢
    split at h
    · rename_i hc
      simp only [hc, if_true]
      exact ih h
    · cases h
theorem replay_take {N : Nat} {l : List Stp} {s : St} (h : (replayS N s l).2 = true) (k : Nat) : (replayS N s (l.take k)).2 = true := by
  by_cases hk : k < l.length
  · have := List.take_append_drop k l
    rw [List.drop_eq_getElem_cons hk] at this
    rw [← this] at h
    exact (replay_split h).1
  · rwa [List.take_of_length_le (by omega)]
structure InvR (N : Nat) (es : List (Int × Int)) (r : List Stp) (s : St) : Prop where
  good : GoodR es r
  adj : ∀ x y : Nat, s.adj x y = hasR es r x y
  inn : ∀ x : Nat, s.inn x = true ↔ x < N ∧ ∀ u ∈ r, u.v ≠ x
theorem hasR_self {es : List (Int × Int)} (hlt : ∀ e ∈ es, e.1 < e.2) {r : List Stp} (hg : GoodR es r) (a : Int) : hasR es r a a = false := by
  induction r with
  | nil =>
    simp only [hasR, List.any_nil, Bool.or_false, decide_eq_false_iff_not]
    intro h
    have : (a, a) ∈ es := by rcases h with h | h <;> exact h
    have := hlt _ this
    simp at this
  | cons t r ih =>
    rw [hasR_cons, ih hg.1, Bool.or_false, ← Bool.not_eq_true, pairB_iff]
    rintro ⟨h1, h2⟩
    have := (hg.2 h1).1
    omega
theorem stepS_cases (N : Nat) (s : St) (v : Nat) (h : (nearS N s v).length ≤ 2) :
    (nearS N s v = [] ∧ stepS N s v = ⟨v, -1, -1, false⟩ ∧ goS N s v = ⟨fun x => x != v && s.inn x, s.adj⟩) ∨
    (∃ a, nearS N s v = [a] ∧ stepS N s v = ⟨v, a, -1, false⟩ ∧ goS N s v = ⟨fun x => x != v && s.inn x, s.adj⟩) ∨
    (∃ a b, nearS N s v = [a, b] ∧ stepS N s v = ⟨v, a, b, !s.adj a b⟩ ∧ goS N s v = ⟨fun x => x != v && s.inn x, fun x y => (x == a && y == b) || (x == b && y == a) || s.adj x y⟩) := by
  cases hL : nearS N s v with
  | nil => exact .inl ⟨rfl, by unfold stepS; rw [hL], goS_0 hL⟩
  | cons a L =>
    cases L with
    | nil => exact .inr (.inl ⟨a, rfl, by unfold stepS; rw [hL], goS_1 hL⟩)
    | cons b L =>
      cases L with
      | nil => exact .inr (.inr ⟨a, b, rfl, by unfold stepS; rw [hL], goS_2 hL⟩)
      | cons c L => rw [hL] at h; simp at h
theorem mayS_iff {N : Nat} {s : St} {v : Int} : mayS N s v = true ↔ ∃ x : Nat, v = x ∧ x < N ∧ s.inn x = true ∧ (nearS N s x).length ≤ 2 := by
  simp only [mayS, Bool.and_eq_true, decide_eq_true_eq]
  constructor
  · rintro ⟨⟨⟨h1, h2⟩, h3⟩, h4⟩
    exact ⟨v.toNat, by omega, by omega, h3, h4⟩
  · rintro ⟨x, rfl, h1, h2, h3⟩
    exact ⟨⟨⟨by omega, by omega⟩, h2⟩, h3⟩
theorem InvR.snoc {N : Nat} {es : List (Int × Int)} (hlt : ∀ e ∈ es, e.1 < e.2) {r : List Stp} {s : St} (h : InvR N es r s) {t : Stp} (hmay : mayS N s t.v = true) (hstep : stepS N s t.v.toNat = t) :
    InvR N es (t :: r) (goS N s t.v.toNat) := by
  obtain ⟨v, hv, hvN, hvi, hle⟩ := mayS_iff.1 hmay
  rw [hv, Int.toNat_natCast] at hstep ⊢
  have hin : ∀ (adj : Nat → Nat → Bool) (x : Nat), (⟨fun x => x != v && s.inn x, adj⟩ : St).inn x = true ↔ x < N ∧ ∀ u ∈ t :: r, u.v ≠ x := by
    intro adj x
    simp only [Bool.and_eq_true, bne_iff_ne, ne_eq, h.inn x, List.mem_cons, forall_eq_or_imp, hv]
    constructor
    · rintro ⟨h1, h2, h3⟩; exact ⟨h2, by omega, h3⟩
    · rintro ⟨h1, h2, h3⟩; exact ⟨by omega, h1, h3⟩
  rcases stepS_cases N s v hle with ⟨_, h2, h3⟩ | ⟨a, _, h2, h3⟩ | ⟨a, b, h1, h2, h3⟩
  · rw [h2] at hstep
    rw [h3]
    have hadd : t.added = false := by rw [← hstep]
    exact ⟨⟨h.good, fun h' => by rw [hadd] at h'; cases h'⟩, fun x y => by rw [hasR_cons, ← h.adj]; simp [pairB, hadd], hin _⟩
  · rw [h2] at hstep
    rw [h3]
    have hadd : t.added = false := by rw [← hstep]
    exact ⟨⟨h.good, fun h' => by rw [hadd] at h'; cases h'⟩, fun x y => by rw [hasR_cons, ← h.adj]; simp [pairB, hadd], hin _⟩
  · rw [h2] at hstep
    rw [h3]
    have hs := near_sorted N s v
    rw [h1] at hs
    have hab : a < b := by simpa using hs
    have ha := near_mem (N := N) (s := s) (v := v) (x := a) (by rw [h1]; simp)
    have hb := near_mem (N := N) (s := s) (v := v) (x := b) (by rw [h1]; simp)
    have hself := hasR_self hlt h.good (v : Int)
    have hva : (v : Int) ≠ a := by
      intro e
      have := ha.2.2
      rw [h.adj, ← e] at this
      rw [this] at hself; cases hself
    have hvb : (v : Int) ≠ b := by
      intro e
      have := hb.2.2
      rw [h.adj, ← e] at this
      rw [this] at hself; cases hself
    have ta : t.a = a := by rw [← hstep]
    have tb : t.b = b := by rw [← hstep]
    have td : t.added = !s.adj a b := by rw [← hstep]
    refine ⟨⟨h.good, fun h' => ?_⟩, fun x y => ?_, hin _⟩
    · rw [ta, tb, hv]
      have hadj : s.adj a b = false := by rw [td] at h'; simpa using h'
      refine ⟨by omega, hva, hvb, ?_, ?_, ?_, ?_⟩
      · rw [hasR_comm, ← h.adj]; exact ha.2.2
      · rw [← h.adj]; exact hb.2.2
      · rw [← h.adj]; exact hadj
      · intro u hu
        exact ⟨((h.inn a).1 ha.2.1).2 u hu, ((h.inn b).1 hb.2.1).2 u hu⟩
    · rw [hasR_cons, ← h.adj]
      simp only [pairB, ta, tb, td]
      cases hadj : s.adj a b
      · simp only [Bool.not_false, Bool.true_and]
        congr 1
        have e1 : ∀ p q : Nat, ((p : Int) == (q : Int)) = (q == p) := fun p q => by rw [Bool.eq_iff_iff]; simp; omega
        simp only [e1]
        cases x == a <;> cases y == b <;> cases x == b <;> cases y == a <;> rfl
      · simp only [Bool.not_true, Bool.false_and, Bool.false_or]
        by_cases g1 : x = a ∧ y = b
        · obtain ⟨rfl, rfl⟩ := g1; simp [hadj]
        · by_cases g2 : x = b ∧ y = a
          · obtain ⟨rfl, rfl⟩ := g2
            have : s.adj x y = true := by rw [h.adj, hasR_comm, ← h.adj]; exact hadj
            simp [this]
          · have k1 : (x == a && y == b) = false := by rw [← Bool.not_eq_true]; simpa using g1
            have k2 : (x == b && y == a) = false := by rw [← Bool.not_eq_true]; simpa using g2
            rw [k1, k2]; rfl
theorem InvR.start {N : Nat} {es : List (Int × Int)} : InvR N es [] (beginS N es) :=
  ⟨trivial, fun x y => by simp [beginS, hasR], fun x => by simp [beginS]⟩
theorem goAll_snoc (N : Nat) (s : St) (l : List Stp) (t : Stp) : goAll N s (l ++ [t]) = goS N (goAll N s l) t.v.toNat := by simp [goAll]
/-- Behind a replay that was done. -/
theorem InvR.of {N : Nat} {es : List (Int × Int)} (hlt : ∀ e ∈ es, e.1 < e.2) (r : List Stp) (h : (replayS N (beginS N es) r.reverse).2 = true) : InvR N es r (goAll N (beginS N es) r.reverse) := by
  induction r with
  | nil => exact InvR.start
  | cons t r ih =>
    rw [List.reverse_cons] at h ⊢
    obtain ⟨h1, h2, h3⟩ := replay_split h
    rw [goAll_snoc]
    exact (ih h1).snoc hlt h2 h3
theorem right_mem {N : Int} {es : List (Int × Int)} (h : rightB N es = true) : ∀ e ∈ es, e.1 < e.2 := by
  rintro ⟨x, y⟩ he
  obtain ⟨k, hk⟩ := List.mem_iff_getElem?.1 he
  exact (right_range h hk).2.1
theorem edge11_eq {N : Nat} {es : List (Int × Int)} {l : List Stp} (hr : rightB N es = true) (h : (replayS N (beginS N es) l).2 = true) (a b : Int) : edge11S N es l a b = edgeR es l.reverse a b := by
  have hi := InvR.of (right_mem hr) l.reverse (by rwa [List.reverse_reverse])
  have := (find_paths es (right_mem hr) l.reverse hi.good).2 a b
  rw [List.reverse_reverse] at this
  rw [edge11S, if_pos h, this]
end Go.Proofs.Ytcbojlidfabgeaa
