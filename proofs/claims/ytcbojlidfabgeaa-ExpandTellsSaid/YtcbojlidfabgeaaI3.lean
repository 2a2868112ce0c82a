/- The map of who stands for an edge: its keys, and what is looked up. Conditions: steps of a right graph that can all be done. -/
import Derived.Test.YtcbojlidfabgeaaQ4
import Derived.Test.YtcbojlidfabgeaaH5
import Derived.WideKeyPair
import Derived.DeepKeys4
import Derived.Maps.OwnSet
import Derived.Maps.OwnOps
import Derived.Maps.Views
namespace Go.Proofs.Ytcbojlidfabgeaa
open Go.RowKit Go.WideMaps
set_option linter.unusedVariables false
set_option linter.unusedSimpArgs false

theorem laidOutT : laidOutB Try.prog = true := by kernel_rfl
theorem keyed59 : Maps.Keyed Try.prog 59 := Maps.Keyed.of_law (deep_law_laid laidOutT (m := 2) (by omega) (of_decide_eq_true (by kernel_rfl)) (by kernel_rfl) (by rw [Try.underlying59]))
def ek (a b : Int) : Lit := .string (keyBytes [.int .i64 a, .int .i64 b])
def InI (a : Int) : Prop := -9223372036854775808 ≤ a ∧ a ≤ 9223372036854775807
theorem InI.wf {a : Int} (h : InI a) : (Lit.int .i64 a).wf = true := WalkArith.wf_i64 h
theorem keyOf_edge {a b : Int} (ha : InI a) (hb : InI b) : keyOf Try.prog 59 (.agg #[.int .i64 a, .int .i64 b]) = some (ek a b) := by
  have wa := ha.wf
  have wb := hb.wf
  have h1 : Try.prog.keyType 59 = true := by kernel_rfl
  have h3 : 2 ≤ Try.prog.types.size := of_decide_eq_true (by kernel_rfl)
  have h2 : ∃ m, Try.prog.types.size = m + 1 := ⟨Try.prog.types.size - 1, by omega⟩
  obtain ⟨m, hm⟩ := h2
  unfold keyOf
  simp only [Try.underlying59]
  rw [if_pos (by simp [h1, Value.formed, Try.underlying59]; kernel_rfl), hm]
  unfold Program.keyLits
  simp only [Try.underlying59, Value.cells]
  have h5 : Try.prog.cellsOf 59 = 2 := by kernel_rfl
  rw [if_pos (by rw [h5]; exact ⟨rfl, by kernel_rfl⟩)]
  have h4 : Try.prog.cellsOf 3 = 1 := by kernel_rfl
  simp [h4, Program.keyLits, Try.underlying3, wa, wb, ek]
theorem ek_inj {a b x y : Int} (ha : InI a) (hb : InI b) (hx : InI x) (hy : InI y) (h : ek a b = ek x y) : a = x ∧ b = y := by
  have h1 := keyOf_edge ha hb
  have h2 := keyOf_edge hx hy
  rw [h] at h1
  have := keyed59.inj h1 h2
  simpa using this
/-- The map behind the steps, from the last on. -/
def mapR : List Stp → DataW Unit
  | [] => .map []
  | t :: r => if t.added then (mapR r).put (ek t.a t.b) (.lit (.int .i64 t.v)) else mapR r
theorem mapR_isMap (r : List Stp) : Maps.IsMap (mapR r) := by
  induction r with
  | nil => exact Maps.isMap_empty
  | cons t r ih =>
    unfold mapR
    split
    · exact ih.put _ _
    · exact ih
def StI (t : Stp) : Prop := t.added = true → InI t.v ∧ InI t.a ∧ InI t.b ∧ t.a < t.b
def lookR (r : List Stp) (a b : Int) : Option Int := (r.find? fun t => t.added && (t.a == a && t.b == b)).map (·.v)
theorem isKey_ek {a b : Int} (ha : InI a) (hb : InI b) : WideAt.IsKeyLit (ek a b) := keyed59.key (keyOf_edge ha hb)
theorem mapR_look (r : List Stp) (hr : ∀ t ∈ r, StI t) {a b : Int} (ha : InI a) (hb : InI b) : Maps.has (mapR r) (ek a b) = (lookR r a b).isSome ∧ (mapR r).atKey (ek a b) (.lit (.int .i64 0)) = .lit (.int .i64 ((lookR r a b).getD 0)) := by
  induction r with
  | nil =>
    refine ⟨rfl, ?_⟩
    exact Maps.atKey_of_not_has rfl _
  | cons t r ih =>
    obtain ⟨i1, i2⟩ := ih fun u hu => hr u (by simp [hu])
    unfold lookR at i1 i2
    unfold mapR lookR
    rw [List.find?_cons]
    cases hadd : t.added
    · simp only [Bool.false_and, Bool.false_eq_true, if_false]
      exact ⟨i1, i2⟩
    · obtain ⟨_, h2, h3, _⟩ := hr t (by simp) hadd
      simp only [if_true, Bool.true_and]
      by_cases he : t.a = a ∧ t.b = b
      · obtain ⟨rfl, rfl⟩ := he
        simp only [beq_self_eq_true, Bool.and_self]
        exact ⟨Maps.has_put_same (mapR_isMap r) (isKey_ek h2 h3) _, Maps.atKey_put_same (mapR_isMap r) (isKey_ek h2 h3) _ _⟩
      · have hne : ek a b ≠ ek t.a t.b := fun e => by
          obtain ⟨e1, e2⟩ := ek_inj ha hb h2 h3 e
          exact he ⟨e1.symm, e2.symm⟩
        have hf : (t.a == a && t.b == b) = false := by rw [← Bool.not_eq_true]; simpa using he
        rw [hf]
        rw [Maps.has_put_other hne, Maps.atKey_put_other hne]
        exact ⟨i1, i2⟩
/-- By the lesser end first: just the steps that added an edge of these two. -/
theorem look_pair {t : Stp} (h : StI t) (a b : Int) : (t.added && (t.a == min a b && t.b == max a b)) = pairB t a b := by
  unfold pairB
  cases hadd : t.added
  · rfl
  · have := (h hadd).2.2.2
    rw [Bool.true_and, Bool.true_and, Bool.eq_iff_iff]
    simp only [Bool.and_eq_true, Bool.or_eq_true, beq_iff_eq]
    omega
theorem lookR_min (r : List Stp) (hr : ∀ t ∈ r, StI t) (a b : Int) : lookR r (min a b) (max a b) = (r.find? fun t => pairB t a b).map (·.v) := by
  unfold lookR
  congr 1
  induction r with
  | nil => rfl
  | cons t r ih =>
    rw [List.find?_cons, List.find?_cons, look_pair (hr t (by simp)) a b, ih fun u hu => hr u (by simp [hu])]
/-- What a call of the inner one asks: of the steps from the last on, those ahead of r have no edge of a and b. -/
structure Suf (R r : List Stp) (a b : Int) : Prop where
  app : ∃ q, R = q ++ r ∧ ∀ t ∈ q, pairB t a b = false
theorem Suf.full (R : List Stp) (a b : Int) : Suf R R a b := ⟨[], rfl, by simp⟩
theorem Suf.next {R r : List Stp} {t : Stp} {a b : Int} (h : Suf R (t :: r) a b) (hp : pairB t a b = false) : Suf R r a b := by
  obtain ⟨q, h1, h2⟩ := h.app
  refine ⟨q ++ [t], by simp [h1], fun u hu => ?_⟩
  rcases List.mem_append.1 hu with hu | hu
  · exact h2 u hu
  · rw [List.mem_singleton] at hu; subst hu; exact hp
theorem good_app {es : List (Int × Int)} {q r : List Stp} (h : GoodR es (q ++ r)) : GoodR es r := by
  induction q with
  | nil => exact h
  | cons t q ih => exact ih h.1
theorem good_later {es : List (Int × Int)} {q r : List Stp} {t : Stp} (h : GoodR es (q ++ t :: r)) : ∀ u ∈ q, u.added = true → t.v ≠ u.a ∧ t.v ≠ u.b := by
  induction q with
  | nil => intro u hu; cases hu
  | cons s q ih =>
    intro u hu hadd
    rcases List.mem_cons.1 hu with rfl | hu
    · exact (h.2 hadd).2.2.2.2.2.2 t (by simp)
    · exact ih h.1 u hu hadd
theorem Suf.parts {es : List (Int × Int)} {R r : List Stp} {t : Stp} {a b : Int} (hg : GoodR es R) (h : Suf R (t :: r) a b) (hp : pairB t a b = true) (x : Int) (hx : x ≠ t.v) : Suf R r x t.v ∧ Suf R r t.v x := by
  obtain ⟨q, h1, h2⟩ := h.app
  subst h1
  have hadd := (pairB_iff.1 hp).1
  have hgt := (good_app hg).2 hadd
  have key : ∀ u ∈ q ++ [t], pairB u x t.v = false := by
    intro u hu
    rw [← Bool.not_eq_true, pairB_iff]
    rintro ⟨k1, k2⟩
    rcases List.mem_append.1 hu with hu | hu
    · have := good_later hg u hu k1
      omega
    · rw [List.mem_singleton] at hu; subst hu
      have := hgt.2.1
      have := hgt.2.2.1
      omega
  exact ⟨⟨q ++ [t], by simp, key⟩, ⟨q ++ [t], by simp, fun u hu => by rw [pairB_comm]; exact key u hu⟩⟩
theorem Suf.find {R r : List Stp} {a b : Int} (h : Suf R r a b) : (R.find? fun t => pairB t a b) = r.find? fun t => pairB t a b := by
  obtain ⟨q, rfl, h2⟩ := h.app
  rw [List.find?_append]
  have : (q.find? fun t => pairB t a b) = none := by
    rw [List.find?_eq_none]
    intro t ht; rw [h2 t ht]; simp
  rw [this]; rfl
theorem innR_find (r : List Stp) (a b : Int) : (r.find? fun t => pairB t a b) = none → innR r a b = [] := by
  intro h
  induction r with
  | nil => rfl
  | cons t r ih =>
    rw [List.find?_cons] at h
    split at h
    · cases h
    · rename_i hp
      rw [innR, hp]; exact ih h
end Go.Proofs.Ytcbojlidfabgeaa
