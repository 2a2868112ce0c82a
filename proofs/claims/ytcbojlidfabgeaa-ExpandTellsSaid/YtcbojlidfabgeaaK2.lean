/- Arguments opened: graphs, steps, pairs; the row's last step. Conditions: none. -/
import Derived.Test.YtcbojlidfabgeaaB2
import Derived.Test.YtcbojlidfabgeaaO
import Derived.Test.YtcbojlidfabgeaaRows
import Derived.ProofKit
import Derived.Deep.Slices
import Derived.Deep.Fields
import Derived.WideKeyPair
import Derived.Lib.SmallJoins
import Derived.Test.YtcbojlidfabgeaaI3
namespace Go.Proofs.Ytcbojlidfabgeaa
open Go.ChangeShapes Go.WideShapes Go.ChangeAt Go.RowKit Go.Deep
set_option linter.unusedVariables false
set_option linter.unusedSimpArgs false

section
variable {H : Type} {enc : TypeId × Value → H} {P : Program} {w : World} {base : Nat} {spare : Nat → Bool} {held : Bool}
theorem open_slice_fields {t e : TypeId} {fs : Array Field} {fuel : Nat} {cs : List Value} {x : DataW H × List MemPlace} (ht : P.underlying t = some (.slice e)) (he : P.underlying e = some (.struct fs))
    (hone : oneCellFields P fs = true) (hC : P.cellsOf e = fs.size) (h : DataW.trod enc P w base spare held fuel t cs = some x) :
    (cs = [.slice none 0 0] ∧ x = (.nil, [])) ∨
    ∃ (a : Addr) (len cap : Nat), cs = [.slice (some a) len cap] ∧ len ≤ cap ∧ cap ≤ maxLen ∧
      ∀ i, i < len → ∀ (j : Nat) (f : Field), fs[j]? = some f → ∃ (v : Value) (y : DataW H × List MemPlace) (n : Nat), w.cell? (a.add (i * fs.size + j)) = some v ∧ DataW.trod enc P w base spare held n f.type [v] = some y := by
  rcases open_slice ht h with h0 | ⟨a, len, cap, m, n, D, Pl, hcs, hb, hl, hm, hmm, hx, hi⟩
  · exact .inl h0
  · refine .inr ⟨a, len, cap, hcs, hl, hm, fun i hil j f hj => ?_⟩
    have him : i < m := by rw [hmm]; split <;> omega
    obtain ⟨cs', hc, ht'⟩ := hi i him
    rw [hC] at hc
    obtain ⟨ys, n', hn', hy, hlen, hyl, hf⟩ := DataW.trod_struct he ht'
    obtain ⟨_, hcl, hat⟩ := World.cells?_some hc
    obtain ⟨ho, hk⟩ := hone_of hone j f hj
    have hjl : j < fs.size := (Array.getElem?_eq_some_iff.1 hj).1
    have hcell := hat j hjl
    have hv : cs'[j]? = some (cs'[j]'(by omega)) := List.getElem?_eq_getElem (by omega)
    have h1 := hf j f hj
    rw [ho, hk] at h1
    have hone' : (cs'.drop j).take 1 = [cs'[j]'(by omega)] := by
      rw [List.drop_eq_getElem_cons (by omega)]
      rfl
    rw [hone'] at h1
    have hys : ys[j]? = some (ys[j]'(by omega)) := List.getElem?_eq_getElem (by omega)
    refine ⟨_, _, n', ?_, h1.trans hys⟩
    rw [← Go.Deep.add_add, hcell, hv]
theorem post_of_below {f : Func} {s : ChangeSpec} {apart fresh handsOn again : Bool} {W W' : World} {args : Array Value} {v : Value} {ds gs : List (DataW H)} {before pa pv : List MemPlace}
    (hW : DataW.Whole enc P f.params.toList s.vars apart W args.toList ds gs before)
    (hres : ∀ (b : Nat) (sp : Nat → Bool) (hd : Bool), DataW.TrodAll enc P W' b sp hd f.resultTypes.toList (v.resultList f.resultTypes.size) (s.fn H (ds ++ gs)).results [])
    (hargs : ∀ sp : Nat → Bool, (∀ p ∈ before, sp p.block = true) → DataW.TrodAll enc P W' 0 sp true f.params.toList args.toList (s.fn H (ds ++ gs)).args pa)
    (hvars : ∀ sp : Nat → Bool, (∀ p ∈ before, sp p.block = true) → DataW.TrodVars enc P W' sp s.vars (s.fn H (ds ++ gs)).vars pv)
    (hps : before = pa ++ pv) (hb : Below W.heap.size W W')
    (hok : ∀ (j : Nat) (t : TypeId) (r : Value), f.resultTypes[j]? = some t → (v.resultList f.resultTypes.size)[j]? = some r → Value.okWide P W' .any 0 t r) :
    s.post enc P f apart fresh handsOn again W args v W' := by
  have hlt : ∀ p ∈ before, p.block < W.heap.size := fun p hp => hW.lt p hp
  have hold : ∀ p ∈ before, (fun b => decide (b < W.heap.size)) p.block = true := fun p hp => by simpa using hlt p hp
  refine ⟨ds, gs, before, [], pa, pv, hW, hres _ _ _, hargs _ hold, hvars _ hold, World.keptBut_mono (fun p hp => ⟨hp, ?_⟩) (hb.frame (· ∈ before)), fun _ => ?_⟩
  · rw [hps, List.mem_append] at hp
    exact Or.inr hp
  · obtain ⟨_, _, _, _, _, hz, hn⟩ := hW
    refine ⟨hok, _, _, ([] ++ pa) ++ pv, ⟨[] ++ pa, pv, trodAll_append (hargs _ (fun _ _ => rfl)) (hres _ _ _), hvars _ (fun _ _ => rfl), rfl, ?_, ?_⟩, ?_⟩
    · intro b off hp
      have hin : MemPlace.cell b off ∈ before := by rw [hps]; simpa using hp
      rw [hb.frozen (hlt _ hin)]
      exact hz b off hin
    · intro ha
      have := hn ha
      rw [hps] at this
      simpa using this
    · intro p hp _
      rw [hps]
      simpa using hp
end

theorem cell_spot {w : World} {a : Addr} {v : Value} (h : w.cell? a = some v) : a.spot = none := by
  obtain ⟨b, off, sp⟩ := a
  cases sp with
  | none => rfl
  | some s =>
    simp [World.cell?] at h
    split at h <;> cases h
/-- The cells of a slice, out of those of each element. -/
theorem sl_of_cells {w : World} {a : Addr} {len cap n : Nat} (hn : 0 < n) (hl : len ≤ cap) (hm : cap ≤ maxLen) (F : Nat → List Value) (hF : ∀ i, i < len → (F i).length = n) (hc : ∀ i, i < len → ∀ j v, (F i)[j]? = some v → w.cell? (a.add (i * n + j)) = some v) :
    Sl w (some a) len cap n ((List.range len).flatMap F) := by
  have key : ∀ m, m ≤ len → ((List.range m).flatMap F).length = m * n ∧ ∀ j v, ((List.range m).flatMap F)[j]? = some v → w.cell? (a.add j) = some v := by
    intro m
    induction m with
    | zero => intro _; exact ⟨by simp, fun j v h => by simp at h⟩
    | succ m ih =>
      intro hm
      obtain ⟨i1, i2⟩ := ih (by omega)
      rw [List.range_succ, List.flatMap_append]
      have h1 := hF m (by omega)
      refine ⟨by simp [i1, h1, Nat.succ_mul], fun j v h => ?_⟩
      by_cases hj : j < m * n
      · rw [List.getElem?_append_left (by omega)] at h
        exact i2 j v h
      · rw [List.getElem?_append_right (by omega), i1] at h
        simp only [List.flatMap_cons, List.flatMap_nil, List.append_nil] at h
        have := hc m (by omega) (j - m * n) v h
        rwa [show m * n + (j - m * n) = j by omega] at this
  obtain ⟨k1, k2⟩ := key len (Nat.le_refl _)
  refine ⟨k1, hl, hm, ?_⟩
  rcases Nat.eq_zero_or_pos len with h0 | h0
  · exact .inl h0
  · right
    have hpos : 0 < ((List.range len).flatMap F).length := by rw [k1]; exact Nat.mul_pos h0 hn
    have hs := cell_spot (k2 0 _ (List.getElem?_eq_getElem hpos))
    simp only [Addr.add, if_true] at hs
    obtain ⟨b, off, sp⟩ := a
    simp only at hs
    subst hs
    exact ⟨b, off, rfl, fun j v hv => by rw [← addr_add]; exact k2 j v hv⟩
theorem in64_of {a : Int} (h : (Lit.int .i64 a).wf = true) : InI a := by
  simp only [Lit.wf, Bool.and_eq_true, decide_eq_true_eq] at h
  have h1 : IntKind.min .i64 = -9223372036854775808 := by decide
  have h2 : IntKind.max .i64 = 9223372036854775807 := by decide
  rw [h1, h2] at h
  exact h
section
variable {H : Type} {enc : TypeId × Value → H} {w : World} {base : Nat} {spare : Nat → Bool} {held : Bool}
theorem open_edges {fuel : Nat} {v : Value} {x : DataW H × List MemPlace} (h : DataW.trod enc Try.prog w base spare held fuel 22 [v] = some x) : ∃ A c es, v = .slice A es.length c ∧ Sl w A es.length c 2 (edgeCells es) := by
  rcases open_slice_fields Try.underlying22 Try.underlying59 (by kernel_rfl) (by kernel_rfl) h with ⟨h0, _⟩ | ⟨a, len, cap, h0, hl, hm, hi⟩
  · injection h0 with h0; subst h0
    exact ⟨none, 0, [], rfl, rfl, Nat.le_refl _, by omega, .inl rfl⟩
  · injection h0 with h0; subst h0
    have each : ∀ i, i < len → ∃ e : Int × Int, w.cell? (a.add (i * 2 + 0)) = some (.int .i64 e.1) ∧ w.cell? (a.add (i * 2 + 1)) = some (.int .i64 e.2) := by
      intro i hil
      obtain ⟨v0, y0, n0, c0, t0⟩ := hi i hil 0 _ rfl
      obtain ⟨v1, y1, n1, c1, t1⟩ := hi i hil 1 _ rfl
      obtain ⟨x0, e0, _, _⟩ := DataW.trod_int Try.underlying3 t0
      obtain ⟨x1, e1, _, _⟩ := DataW.trod_int Try.underlying3 t1
      injection e0 with e0; injection e1 with e1
      subst e0; subst e1
      exact ⟨(x0, x1), c0, c1⟩
    obtain ⟨f, hf⟩ := choose_lt each
    have hlen : ((List.range len).map f).length = len := by simp
    refine ⟨some a, cap, (List.range len).map f, by rw [hlen], ?_⟩
    rw [hlen]
    have := sl_of_cells (w := w) (a := a) (n := 2) (by omega) hl hm (fun i => [.int .i64 (f i).1, .int .i64 (f i).2]) (fun i _ => rfl) (fun i hil j v hv => by
      obtain ⟨k0, k1⟩ := hf i hil
      match j with
      | 0 => simp at hv; subst hv; exact k0
      | 1 => simp at hv; subst hv; exact k1
      | j + 2 => simp at hv)
    rw [edgeCells, List.flatMap_map]
    exact this
theorem open_steps {fuel : Nat} {v : Value} {x : DataW H × List MemPlace} (h : DataW.trod enc Try.prog w base spare held fuel 25 [v] = some x) : ∃ A c l, v = .slice A l.length c ∧ Sl w A l.length c 4 (stepCells l) := by
  rcases open_slice_fields Try.underlying25 Try.underlying94 (by kernel_rfl) (by kernel_rfl) h with ⟨h0, _⟩ | ⟨a, len, cap, h0, hl, hm, hi⟩
  · injection h0 with h0; subst h0
    exact ⟨none, 0, [], rfl, rfl, Nat.le_refl _, by omega, .inl rfl⟩
  · injection h0 with h0; subst h0
    have each : ∀ i, i < len → ∃ e : Stp, w.cell? (a.add (i * 4 + 0)) = some (.int .i64 e.v) ∧ w.cell? (a.add (i * 4 + 1)) = some (.int .i64 e.a) ∧ w.cell? (a.add (i * 4 + 2)) = some (.int .i64 e.b) ∧ w.cell? (a.add (i * 4 + 3)) = some (.bool e.added) := by
      intro i hil
      obtain ⟨v0, y0, n0, c0, t0⟩ := hi i hil 0 _ rfl
      obtain ⟨v1, y1, n1, c1, t1⟩ := hi i hil 1 _ rfl
      obtain ⟨v2, y2, n2, c2, t2⟩ := hi i hil 2 _ rfl
      obtain ⟨v3, y3, n3, c3, t3⟩ := hi i hil 3 _ rfl
      obtain ⟨x0, e0, _, _⟩ := DataW.trod_int Try.underlying3 t0
      obtain ⟨x1, e1, _, _⟩ := DataW.trod_int Try.underlying3 t1
      obtain ⟨x2, e2, _, _⟩ := DataW.trod_int Try.underlying3 t2
      obtain ⟨x3, e3, _⟩ := DataW.trod_bool Try.underlying4 t3
      injection e0 with e0; injection e1 with e1; injection e2 with e2; injection e3 with e3
      subst e0; subst e1; subst e2; subst e3
      exact ⟨⟨x0, x1, x2, x3⟩, c0, c1, c2, c3⟩
    haveI : Inhabited Stp := ⟨⟨0, 0, 0, false⟩⟩
    obtain ⟨f, hf⟩ := choose_lt each
    have hlen : ((List.range len).map f).length = len := by simp
    refine ⟨some a, cap, (List.range len).map f, by rw [hlen], ?_⟩
    rw [hlen]
    have := sl_of_cells (w := w) (a := a) (n := 4) (by omega) hl hm (fun i => [.int .i64 (f i).v, .int .i64 (f i).a, .int .i64 (f i).b, .bool (f i).added]) (fun i _ => rfl) (fun i hil j v hv => by
      obtain ⟨k0, k1, k2, k3⟩ := hf i hil
      match j with
      | 0 => simp at hv; subst hv; exact k0
      | 1 => simp at hv; subst hv; exact k1
      | 2 => simp at hv; subst hv; exact k2
      | 3 => simp at hv; subst hv; exact k3
      | j + 4 => simp at hv)
    rw [stepCells, List.flatMap_map]
    exact this
set_option maxRecDepth 100000 in
theorem open_net {r : Reach} {b0 : Nat} {v : Value} {d : DataW H} {p : List MemPlace} (hv : Value.okWide Try.prog w r b0 24 v) (h : DataW.Trod enc Try.prog w base spare held 24 v d p) : ∃ (n : Int) (A : Option Addr) (c : Nat) (es : List (Int × Int)), v = .agg #[.int .i64 n, .slice A es.length c] ∧ Sl w A es.length c 2 (edgeCells es) := by
  obtain ⟨v0, v1, y0, y1, n, rfl, _, _, t0, t1⟩ := Joins.open_agg2 Try.underlying24 (by kernel_rfl) (by kernel_rfl) hv h
  obtain ⟨x0, e0, _, _⟩ := DataW.trod_int Try.underlying3 t0
  injection e0 with e0
  subst e0
  obtain ⟨A, c, es, rfl, hs⟩ := open_edges t1
  exact ⟨x0, A, c, es, rfl, hs⟩
set_option maxRecDepth 100000 in
theorem arr26 : WideMaps.ArrKey Try.prog 26 3 2 := ⟨Try.underlying26, by kernel_rfl, by kernel_rfl, by kernel_rfl⟩
set_option maxRecDepth 100000 in
theorem open_ends {r : Reach} {b0 : Nat} {v : Value} {d : DataW H} {p : List MemPlace} (hv : Value.okWide Try.prog w r b0 26 v) (h : DataW.Trod enc Try.prog w base spare held 26 v d p) : ∃ a b : Int, v = .agg #[.int .i64 a, .int .i64 b] ∧ InI a ∧ InI b := by
  obtain ⟨a, b, rfl, _, _, wa, wb⟩ := WideMaps.open_pair arr26 Try.underlying3 hv h
  exact ⟨a, b, rfl, in64_of wa, in64_of wb⟩
set_option maxRecDepth 100000 in
theorem open_top {t e : TypeId} {r : Reach} {b0 : Nat} {v : Value} {d : DataW H} {p : List MemPlace} (ht : Try.prog.underlying t = some (.slice e)) (hv : Value.okWide Try.prog w r b0 t v) (h : DataW.Trod enc Try.prog w base spare held t v d p) : ∃ fuel, DataW.trod enc Try.prog w base spare held fuel t [v] = some (d, p) := by
  obtain ⟨a, n, c, rfl⟩ := okWide_slice ht hv
  obtain ⟨fuel, hf⟩ := h
  exact ⟨fuel, by simpa [Value.cells] using hf⟩
end
end Go.Proofs.Ytcbojlidfabgeaa
