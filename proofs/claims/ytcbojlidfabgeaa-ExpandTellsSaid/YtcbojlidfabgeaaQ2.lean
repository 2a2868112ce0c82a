/- Plain words: what is left of a graph, and how vertices go (steps, replayed). Conditions: none. -/
import Derived.Test.YtcbojlidfabgeaaO
namespace Go.Proofs.Ytcbojlidfabgeaa
set_option linter.unusedVariables false
set_option linter.unusedSimpArgs false

def tab {α : Type} (N : Nat) (f : Nat → α) : List α := (List.range N).map f
@[simp] theorem tab_length {α : Type} (N : Nat) (f : Nat → α) : (tab N f).length = N := by simp [tab]
theorem tab_get {α : Type} {N i : Nat} (f : Nat → α) (h : i < N) : (tab N f)[i]? = some (f i) := by simp [tab, h]
theorem tab_get_inv {α : Type} {N i : Nat} {f : Nat → α} {x : α} (h : (tab N f)[i]? = some x) : i < N ∧ f i = x := by
  have hi : i < N := by have := (List.getElem?_eq_some_iff.1 h).1; simpa using this
  rw [tab_get f hi] at h
  injection h with h
  exact ⟨hi, h⟩
theorem tab_set {α : Type} {N i : Nat} (f : Nat → α) (v : α) : (tab N f).set i v = tab N (fun j => if j = i then v else f j) := by
  apply List.ext_getElem?
  intro j
  by_cases hj : j < N
  · rw [tab_get _ hj]
    by_cases hji : j = i
    · subst hji; rw [List.getElem?_set_self (by simpa using hj)]; simp
    · rw [List.getElem?_set_ne (Ne.symm hji), tab_get _ hj, if_neg hji]
  · rw [List.getElem?_eq_none (by simp; omega), List.getElem?_eq_none (by simp; omega)]
theorem tab_congr {α : Type} {N : Nat} {f g : Nat → α} (h : ∀ i, i < N → f i = g i) : tab N f = tab N g := by
  apply List.ext_getElem?
  intro j
  by_cases hj : j < N
  · rw [tab_get _ hj, tab_get _ hj, h j hj]
  · rw [List.getElem?_eq_none (by simp; omega), List.getElem?_eq_none (by simp; omega)]

/-- What is left: who is in, and who stands beside whom. -/
structure St where
  inn : Nat → Bool
  adj : Nat → Nat → Bool
def nearS (N : Nat) (s : St) (v : Nat) : List Nat := (List.range N).filter fun x => s.inn x && s.adj v x
def mayS (N : Nat) (s : St) (v : Int) : Bool := decide (0 ≤ v) && decide (v < N) && s.inn v.toNat && decide ((nearS N s v.toNat).length ≤ 2)
def stepS (N : Nat) (s : St) (v : Nat) : Stp :=
  match nearS N s v with
  | [] => ⟨v, -1, -1, false⟩
  | [a] => ⟨v, a, -1, false⟩
  | a :: b :: _ => ⟨v, a, b, !s.adj a b⟩
def goS (N : Nat) (s : St) (v : Nat) : St :=
  match nearS N s v with
  | [a, b] => ⟨fun x => x != v && s.inn x, fun x y => (x == a && y == b) || (x == b && y == a) || s.adj x y⟩
  | _ => ⟨fun x => x != v && s.inn x, s.adj⟩
def eqStp (x y : Stp) : Bool := decide (x.v = y.v) && decide (x.a = y.a) && decide (x.b = y.b) && (x.added == y.added)
theorem eqStp_iff (x y : Stp) : eqStp x y = true ↔ x = y := by
  cases x; cases y; simp [eqStp, and_assoc]
/-- Steps done one behind the other: how many were done, and what is left then. -/
def replayS (N : Nat) : St → List Stp → St × Bool
  | s, [] => (s, true)
  | s, t :: l => if mayS N s t.v && eqStp (stepS N s t.v.toNat) t then replayS N (goS N s t.v.toNat) l else (s, false)
instance instBoth (l : List (Int × Int)) (x y : Int) : Decidable (both l x y) := by unfold both; infer_instance
def beginS (N : Nat) (es : List (Int × Int)) : St := ⟨fun x => decide (x < N), fun a b => decide (both es a b)⟩
def beginK (N k : Nat) (es : List (Int × Int)) : St := ⟨fun x => decide (x < N), fun a b => decide (both (es.take k) a b)⟩
end Go.Proofs.Ytcbojlidfabgeaa
