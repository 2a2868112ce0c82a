/- Plain law: the paths of a replay fit. Conditions: a right graph of at most 30 vertices. -/
import Derived.Test.YtcbojlidfabgeaaQ3
namespace Go.Proofs.Ytcbojlidfabgeaa
set_option linter.unusedVariables false
set_option linter.unusedSimpArgs false

def addedN (r : List Stp) : Nat := r.countP fun t => t.added
theorem innR_len (r : List Stp) (a b : Int) : (innR r a b).length + 1 ≤ 2 ^ addedN r := by
  induction r generalizing a b with
  | nil => simp [innR, addedN]
  | cons t r ih =>
    have h1 := ih a t.v
    have h2 := ih t.v b
    have h3 := ih a b
    have hc : addedN (t :: r) = addedN r + if t.added then 1 else 0 := by simp [addedN, List.countP_cons]
    rw [hc]
    unfold innR
    split
    · rename_i hp
      rw [(pairB_iff.1 hp).1, if_pos rfl, Nat.pow_succ, List.length_append, List.length_cons]
      omega
    · split
      · rw [Nat.pow_succ]; omega
      · simpa using h3
theorem paths_len (es : List (Int × Int)) (hlt : ∀ e ∈ es, e.1 < e.2) (r : List Stp) (hg : GoodR es r) : ∀ p ∈ pathsS es r.reverse, p ≠ [] ∧ p.length ≤ 2 ^ addedN r + 1 := by
  intro p hp
  refine ⟨(find_paths es hlt r hg).1 p hp, ?_⟩
  induction r with
  | nil =>
    simp only [pathsS, List.reverse_nil, List.foldl_nil, edgePaths, List.mem_map] at hp
    obtain ⟨e, _, rfl⟩ := hp
    simp [addedN]
  | cons t r ih =>
    rw [paths_rev_cons] at hp
    have hc : addedN (t :: r) = addedN r + if t.added then 1 else 0 := by simp [addedN, List.countP_cons]
    unfold stepPaths at hp
    split at hp
    · rename_i hadd
      obtain ⟨h1, h2, h3, h4, h5, h6, h7⟩ := hg.2 hadd
      rw [hc, hadd, if_pos rfl, Nat.pow_succ]
      rcases List.mem_append.1 hp with hp | hp
      · have := ih hg.1 hp; omega
      · rw [List.mem_singleton] at hp
        have hf := (find_paths es hlt r hg.1).2
        rw [hf, hf, edgeR_one h4, edgeR_one h5] at hp
        have l1 := innR_len r t.a t.v
        have l2 := innR_len r t.v t.b
        subst hp
        simp
        omega
    · have := ih hg.1 hp
      have : 2 ^ addedN r ≤ 2 ^ addedN (t :: r) := Nat.pow_le_pow_right (by omega) (by rw [hc]; omega)
      omega
def cntS (N : Nat) (s : St) : Nat := (List.range N).countP fun x => s.inn x
theorem countP_out {l : List Nat} (hn : l.Nodup) {v : Nat} (hv : v ∈ l) {p : Nat → Bool} (hp : p v = true) : l.countP p = l.countP (fun x => x != v && p x) + 1 := by
  induction l with
  | nil => cases hv
  | cons a l ih =>
    rw [List.nodup_cons] at hn
    rw [List.countP_cons, List.countP_cons]
    by_cases ha : a = v
    · subst ha
      have : l.countP (fun x => x != a && p x) = l.countP p := by
        apply List.countP_congr
        intro x hx
        have : x ≠ a := fun e => hn.1 (e ▸ hx)
        simp [this]
      rw [this]
      simp [hp]
    · have hv' : v ∈ l := by
        rcases List.mem_cons.1 hv with e | e
        · exact absurd e.symm ha
        · exact e
      rw [ih hn.2 hv']
      simp [ha]
      omega
theorem goS_inn (N : Nat) (s : St) (v : Nat) : (goS N s v).inn = fun x => x != v && s.inn x := by
  unfold goS
  split <;> rfl
theorem cnt_go {N : Nat} {s : St} {v : Nat} (hv : v < N) (hi : s.inn v = true) : cntS N (goS N s v) + 1 = cntS N s := by
  unfold cntS
  rw [goS_inn, countP_out (List.nodup_range) (List.mem_range.2 hv) hi]
theorem cnt_begin (N : Nat) (es : List (Int × Int)) : cntS N (beginS N es) = N := by
  unfold cntS
  have : (List.range N).countP (fun x => (beginS N es).inn x) = (List.range N).length := by
    rw [List.countP_eq_length]
    intro x hx
    simpa [beginS] using hx
  rw [this, List.length_range]
theorem cnt_near {N : Nat} {s : St} {v : Nat} (hv : v < N) (hi : s.inn v = true) (hs : s.adj v v = false) : (nearS N s v).length + 1 ≤ cntS N s := by
  unfold cntS nearS
  rw [countP_out (List.nodup_range) (List.mem_range.2 hv) hi, ← List.countP_eq_length_filter]
  apply Nat.add_le_add_right
  apply List.countP_mono_left
  intro x hx h
  simp only [Bool.and_eq_true, bne_iff_ne, ne_eq] at h ⊢
  refine ⟨fun e => ?_, h.1⟩
  subst e
  rw [hs] at h
  cases h.2
theorem cnt_all {N : Nat} {es : List (Int × Int)} (hlt : ∀ e ∈ es, e.1 < e.2) (r : List Stp) (h : (replayS N (beginS N es) r.reverse).2 = true) :
    cntS N (goAll N (beginS N es) r.reverse) + r.length = N ∧ addedN r ≤ N - 2 := by
  induction r with
  | nil => exact ⟨by simpa [goAll] using cnt_begin N es, by simp [addedN]⟩
  | cons t r ih =>
    rw [List.reverse_cons] at h ⊢
    obtain ⟨h1, h2, h3⟩ := replay_split h
    obtain ⟨i1, i2⟩ := ih h1
    have hI := InvR.of hlt r h1
    obtain ⟨v, hv, hvN, hvi, hle⟩ := mayS_iff.1 h2
    have hc := cnt_go hvN hvi
    have hvv : (t.v).toNat = v := by omega
    have hself : (goAll N (beginS N es) r.reverse).adj v v = false := by rw [hI.adj]; exact hasR_self hlt hI.good _
    have hn := cnt_near hvN hvi hself
    have hcd : addedN (t :: r) = addedN r + if t.added then 1 else 0 := by simp [addedN, List.countP_cons]
    rw [goAll_snoc, hvv]
    refine ⟨by rw [List.length_cons]; omega, ?_⟩
    rw [hcd]
    split
    · rename_i hadd
      have hl2 : (nearS N (goAll N (beginS N es) r.reverse) v).length = 2 := by
        rw [hvv] at h3
        rcases stepS_cases N _ v hle with ⟨_, g2, _⟩ | ⟨a, _, g2, _⟩ | ⟨a, b, g1, _⟩
        · rw [g2] at h3; rw [← h3] at hadd; cases hadd
        · rw [g2] at h3; rw [← h3] at hadd; cases hadd
        · rw [g1]; rfl
      have : addedN r ≤ r.length := List.countP_le_length
      omega
    · simpa using i2
theorem fits_of {N : Nat} {es : List (Int × Int)} {l : List Stp} (hr : rightB N es = true) (hN : N ≤ 30) (hl : l.length ≤ 1000) : Fits N es l := by
  have hlt := right_mem hr
  have hrev : ∀ {k : Nat}, (replayS N (beginS N es) l).2 = true → (replayS N (beginS N es) (l.take k).reverse.reverse).2 = true := by
    intro k h
    rw [List.reverse_reverse]
    exact replay_take h k
  refine ⟨hr, by omega, hl, ?_, ?_⟩
  · intro h k hk p hp
    have hI := InvR.of hlt (l.take k).reverse (hrev h)
    have hp' : p ∈ pathsS es (l.take k).reverse.reverse := by rwa [List.reverse_reverse]
    have hp2 := paths_len es hlt _ hI.good p hp'
    have hc := (cnt_all hlt (l.take k).reverse (hrev h)).2
    have : 2 ^ addedN (l.take k).reverse ≤ 2 ^ 28 := Nat.pow_le_pow_right (by omega) (by omega)
    exact ⟨hp2.1, by omega⟩
  · intro h k t ht hadd
    have hI := InvR.of hlt (l.take (k + 1)).reverse (hrev h)
    rw [take_snoc_any ht, List.reverse_append] at hI
    have hg := hI.good
    simp only [List.reverse_cons, List.reverse_nil, List.nil_append, List.singleton_append] at hg
    obtain ⟨h1, h2⟩ := hg
    obtain ⟨_, _, _, _, h5, _, _⟩ := h2 hadd
    have := (find_paths es hlt _ h1).2 t.v t.b
    rw [List.reverse_reverse] at this
    rw [this, edgeR_one h5]
    simp
end Go.Proofs.Ytcbojlidfabgeaa
