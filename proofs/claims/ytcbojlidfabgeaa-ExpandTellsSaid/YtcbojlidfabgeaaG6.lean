/- The program's rest in memory; the neighbours by the order of the edges are those by the table. Conditions: none. -/
import Derived.Test.YtcbojlidfabgeaaG4
namespace Go.Proofs.Ytcbojlidfabgeaa
open Go.RowKit
set_option linter.unusedVariables false
set_option linter.unusedSimpArgs false

/-- The rows of neighbours that the program keeps: of those that went, none. -/
def rowsP (N : Nat) (s : St) : List (List Int) := tab N fun v => if s.inn v then nats (nearS N s v) else []
/-- The program's rest in memory: rows of neighbours at gn, who is gone at gg. -/
structure RestP (w : World) (base N : Nat) (s : St) (gn cn gg cg : Nat) (vs : List Value) : Prop where
  near : Rows2 w base gn 3 30 N vs ((rowsP N s).map ints)
  gone : w.ownsRow base 4 1 (.slice (some ⟨gg, 0, none⟩) N cg) N (tab N fun x => .bool (!s.inn x))
  cap : N ≤ cn ∧ cn ≤ 9223372036854775807
def restV (N gn cn gg cg : Nat) : Value := .agg #[.slice (some ⟨gn, 0, none⟩) N cn, .slice (some ⟨gg, 0, none⟩) N cg]
theorem RestP.below {w w' : World} {base N : Nat} {s : St} {gn cn gg cg : Nat} {vs : List Value} (h : RestP w base N s gn cn gg cg vs) (hb : Below w.heap.size w w') : RestP w' base N s gn cn gg cg vs :=
  ⟨h.near.below hb, own_below h.gone hb, h.cap⟩
/-- The list of neighbours rises. -/
theorem nbL_sorted {n : Int} {es : List (Int × Int)} (h : rightB n es = true) (v : Int) : (nbL es v).Pairwise (· < ·) := by
  unfold nbL
  rw [List.pairwise_flatMap]
  refine ⟨fun e _ => ?_, ?_⟩
  · unfold nbOf; split
    · simp
    · split <;> simp
  · rw [List.pairwise_iff_getElem]
    intro i j hi hj hij x hx y hy
    obtain ⟨d, rfl⟩ : ∃ d, j = i + d + 1 := ⟨j - i - 1, by omega⟩
    have hp : es[i]? = some es[i] := List.getElem?_eq_getElem hi
    have hq : es[i + d + 1]? = some es[i + d + 1] := List.getElem?_eq_getElem hj
    have hlt := right_lt h d i _ _ hp hq
    generalize es[i] = e1 at hp hlt hx
    generalize es[i + d + 1] = e2 at hq hlt hy
    obtain ⟨a, b⟩ := e1
    obtain ⟨a', b'⟩ := e2
    have h1 := right_range h hp
    have h2 := right_range h hq
    simp only [ltEdge, Bool.or_eq_true, decide_eq_true_eq, Bool.and_eq_true] at hlt
    simp only [nbOf] at hx hy
    split at hx <;> split at hy
    · simp only [List.mem_singleton] at hx hy
      subst hx; subst hy
      simp at *; omega
    · split at hy
      · simp only [List.mem_singleton] at hx hy
        subst hx; subst hy
        simp at *; omega
      · simp at hy
    · split at hx
      · simp only [List.mem_singleton] at hx hy
        subst hx; subst hy
        simp at *; omega
      · simp at hx
    · split at hx <;> split at hy
      · simp only [List.mem_singleton] at hx hy
        subst hx; subst hy
        simp at *; omega
      · simp at hy
      · simp at hx
      · simp at hx
theorem nbL_mem {es : List (Int × Int)} {v y : Int} : y ∈ nbL es v ↔ both es v y := by
  unfold nbL both
  rw [List.mem_flatMap]
  constructor
  · rintro ⟨⟨a, b⟩, h1, h2⟩
    unfold nbOf at h2
    split at h2
    · rename_i h; simp at h h2; subst h; subst h2; exact .inr h1
    · split at h2
      · rename_i h; simp at h h2; subst h; subst h2; exact .inl h1
      · simp at h2
  · rintro (h | h)
    · refine ⟨_, h, ?_⟩
      unfold nbOf
      by_cases hy : y = v
      · simp [hy]
      · simp [hy]
    · exact ⟨_, h, by simp [nbOf]⟩
theorem strict_ext {l m : List Int} (hl : l.Pairwise (· < ·)) (hm : m.Pairwise (· < ·)) (h : ∀ x, x ∈ l ↔ x ∈ m) : l = m := by
  have nl : l.Nodup := hl.imp fun h => by omega
  have nm : m.Nodup := hm.imp fun h => by omega
  have hp : l.Perm m := (List.perm_ext_iff_of_nodup nl nm).2 h
  exact hp.eq_of_pairwise (fun a b _ _ h1 h2 => by omega) hl hm
theorem nbL_near {N : Nat} {es : List (Int × Int)} (h : rightB N es = true) (v : Nat) : nbL es v = nats (nearS N (beginS N es) v) := by
  refine strict_ext (nbL_sorted h v) ?_ ?_
  · have := near_sorted N (beginS N es) v
    unfold nats
    rw [List.pairwise_map]
    exact this.imp fun h => by omega
  · intro x
    rw [nbL_mem]
    simp only [nats, List.mem_map, nearS, List.mem_filter, List.mem_range, beginS, Bool.and_eq_true, decide_eq_true_eq]
    constructor
    · intro hb
      have hr : 0 ≤ x ∧ x < N := by
        rcases hb with hb | hb <;> obtain ⟨k, hk⟩ := List.mem_iff_getElem?.1 hb <;> have := right_range h hk <;> omega
      exact ⟨x.toNat, ⟨by omega, by omega, by rwa [Int.toNat_of_nonneg hr.1]⟩, by omega⟩
    · rintro ⟨a, ⟨_, _, hb⟩, rfl⟩
      exact hb
end Go.Proofs.Ytcbojlidfabgeaa
