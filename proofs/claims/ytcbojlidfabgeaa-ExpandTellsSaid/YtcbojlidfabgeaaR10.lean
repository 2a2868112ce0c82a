/- The reference's layer 10: Near, May of what is left. Conditions: at most 1000 vertices. -/
import Derived.Test.YtcbojlidfabgeaaQ2
namespace Go.Proofs.Ytcbojlidfabgeaa
open Go.RowKit
set_option linter.unusedVariables false
set_option linter.unusedSimpArgs false

/-- The reference's Rest in memory: the block bp of two slices: who is in (a row of bools at gi), who stands beside whom (rows of bools). -/
structure Rest10 (w : World) (base bp N : Nat) (s : St) (gi ci ga ca : Nat) (Aa : Option Addr) (vs : List Value) : Prop where
  low : base ≤ bp
  hp : w.heap[bp]? = some (.cells #[.slice (some ⟨gi, 0, none⟩) N ci, .slice Aa N ca] 159 (0, 0))
  inn : w.ownsRow base 4 1 (.slice (some ⟨gi, 0, none⟩) N ci) N (tab N fun x => .bool (s.inn x))
  hA : 0 < N → Aa = some ⟨ga, 0, none⟩
  adj : 0 < N → Rows2 w base ga 4 99 N vs (tab N fun a => tab N fun b => .bool (s.adj a b))
  far : 0 < N → ∀ (i : Nat) (v : Value), vs[i]? = some v → v.ownBlock ≠ some gi
  capa : N ≤ ca ∧ ca ≤ 9223372036854775807
theorem Rest10.below {w w' : World} {base bp N : Nat} {s : St} {gi ci ga ca : Nat} {Aa : Option Addr} {vs : List Value} (h : Rest10 w base bp N s gi ci ga ca Aa vs) (hb : Below w.heap.size w w') : Rest10 w' base bp N s gi ci ga ca Aa vs :=
  ⟨h.low, (hb.block _ (Array.getElem?_eq_some_iff.1 h.hp).1).trans h.hp, own_below h.inn hb, h.hA, fun hN => (h.adj hN).below hb, h.far, h.capa⟩
/-- What is read of it. -/
theorem Rest10.in_cell {w : World} {base bp N : Nat} {s : St} {gi ci ga ca : Nat} {Aa : Option Addr} {vs : List Value} (h : Rest10 w base bp N s gi ci ga ca Aa vs) {x : Nat} (hx : x < N) : w.cell? ⟨gi, x, none⟩ = some (.bool (s.inn x)) := by
  rw [h.inn.cellAt x (by omega)]; exact tab_get _ hx
theorem Rest10.adj_cell {w : World} {base bp N : Nat} {s : St} {gi ci ga ca : Nat} {Aa : Option Addr} {vs : List Value} (h : Rest10 w base bp N s gi ci ga ca Aa vs) {a : Nat} (ha : a < N) :
    ∃ gr cr, w.cell? ⟨ga, a, none⟩ = some (.slice (some ⟨gr, 0, none⟩) N cr) ∧ N ≤ cr ∧ cr ≤ 9223372036854775807 ∧ ∀ b, b < N → w.cell? ⟨gr, b, none⟩ = some (.bool (s.adj a b)) := by
  have hN : 0 < N := by omega
  obtain ⟨v, xs, hv, hx, hown⟩ := (h.adj hN).get ha
  obtain ⟨_, rfl⟩ := tab_get_inv hx
  rw [tab_length] at hown
  obtain ⟨A, c, rfl, hs⟩ := Sl.of_own hown
  rcases hown.2 with ⟨_, h0⟩ | ⟨g, cap, cur, hv', hg, hh, h2, h3, _⟩
  · omega
  · injection hv' with h1 h2' h3'
    subst h1; subst h3'
    refine ⟨g, c, (h.adj hN).cell hv, hs.cap, hs.capm, fun b hb => ?_⟩
    rw [hown.cellAt b (by omega)]; exact tab_get _ hb
theorem filter_snoc {N k : Nat} (p : Nat → Bool) : (List.range (k + 1)).filter p = (List.range k).filter p ++ (if p k then [k] else []) := by
  rw [List.range_succ, List.filter_append]; congr 1; cases h : p k <;> simp [h]
def nats (l : List Nat) : List Int := l.map (fun x : Nat => (x : Int))
@[simp] theorem nats_length (l : List Nat) : (nats l).length = l.length := by simp [nats]
theorem nats_append (l m : List Nat) : nats (l ++ m) = nats l ++ nats m := by simp [nats]

set_option maxHeartbeats 1600000 in
set_option maxRecDepth 100000 in
theorem Near10_any (w : World) (base bp N : Nat) (s : St) (gi ci ga ca : Nat) (Aa : Option Addr) (vs : List Value) (v : Nat) (hr : Rest10 w base bp N s gi ci ga ca Aa vs) (hv : v < N) (hN : N ≤ 1000) :
    Calls Try.prog 110 #[.pointer (some ⟨bp, 0, none⟩), .int .i64 v] w fun e w' => ∃ u, e = .returned u ∧ w'.ownsRow w.heap.size 3 1 u (nearS N s v).length (ints (nats (nearS N s v))) ∧ Below w.heap.size w w' := by
  obtain ⟨gr, cr, hra, hcr, hcr2, hrow⟩ := hr.adj_cell hv
  have HR := Lib.hid hr
  have HROW := Lib.hid hrow
  have hA := hr.hA (by omega)
  subst hA
  obtain ⟨p0, p1, _, _⟩ := cells2 hr.hp
  have hca1 := hr.capa.1
  have hca2 := hr.capa.2
  have hci1 := (Sl.of_own' hr.inn).cap
  have hci2 := (Sl.of_own' hr.inn).capm
  clear hr hrow
  obtain ⟨i0, hi, hz0, hz1, hz2⟩ := info_parts info3
  go_enter Try.func110, Try.ntmps110
  go_wp2_with fail
  go_loopw [5, 6] (fun o i wr => ∃ k : Nat, i = .int .i64 k ∧ k ≤ N ∧ Hid (wr.ownsRow w.heap.size 3 1 o ((List.range k).filter fun x => s.inn x && s.adj v x).length (ints (nats ((List.range k).filter fun x => s.inn x && s.adj v x)))) ∧ Hid (Below w.heap.size w wr)) (fun _ i _ => N - (intOf i).toNat)
  case atStart => exact ⟨0, rfl, Nat.zero_le _, own_mk (cur := []) (heap_alloc_new w _) (Nat.le_refl _) (Nat.le_refl _) (by unfold maxLen; omega) rfl rfl, below_alloc _ _⟩
  case round =>
    obtain ⟨k, rfl, hk, HO, HB⟩ := hrel
    have hwz := HB.out.size
    have q0 := cell_keep HB.out p0
    have q1 := cell_keep HB.out p1
    have q2 := cell_keep HB.out hra
    by_cases hlt : k < N
    · have q3 := cell_keep HB.out (HR.out.in_cell hlt)
      have q4 := cell_keep HB.out (HROW.out k hlt)
      have HS := Lib.hid (filter_snoc (N := N) (k := k) (fun x => s.inn x && s.adj v x))
      have hlen : ((List.range k).filter fun x => s.inn x && s.adj v x).length ≤ k := by
        have := List.length_filter_le (fun x => s.inn x && s.adj v x) (List.range k)
        simpa using this
      clear p0 p1 hra
      cases h1 : s.inn k
      · rw [h1] at q3
        have HS := Lib.hid (show ((List.range (k + 1)).filter fun x => s.inn x && s.adj v x) = ((List.range k).filter fun x => s.inn x && s.adj v x) by rw [HS.out, h1]; simp)
        go_wp2_with fail
        go_roundw
        case rel => exact ⟨k + 1, by go_num, by omega, by rw [HS.out]; exact HO.out, HB.out⟩
        case measure => simp [intOf]; omega
      · rw [h1] at q3
        cases h2 : s.adj v k
        · rw [h2] at q4
          have HS := Lib.hid (show ((List.range (k + 1)).filter fun x => s.inn x && s.adj v x) = ((List.range k).filter fun x => s.inn x && s.adj v x) by rw [HS.out, h1, h2]; simp)
          go_wp2_with fail
          go_roundw
          case rel => exact ⟨k + 1, by go_num, by omega, by rw [HS.out]; exact HO.out, HB.out⟩
          case measure => simp [intOf]; omega
        · rw [h2] at q4
          have HS := Lib.hid (show ((List.range (k + 1)).filter fun x => s.inn x && s.adj v x) = ((List.range k).filter fun x => s.inn x && s.adj v x) ++ [k] by rw [HS.out, h1, h2]; simp)
          clear h1 h2
          generalize ((List.range k).filter fun x => s.inn x && s.adj v x) = L at *
          go_wp2_with ((at_builtin; refine wpList_append_lies _ rfl _ _ 30 rfl w.heap.size 3 i0 (Value.int .i64 0) 1 8 Try.underlying30 hi hz0 hz1 hz2 rfl (by decide) _ L.length (ints (nats L)) rfl (HO.out.alloc _) ⟨wr.heap.size, 0, none⟩ 1 1 [Value.int .i64 (k : Int)] rfl rfl (World.news_of_block (cs := #[Value.int .i64 (k : Int)]) (t := 3) (fr := (0, 0)) (heap_alloc_new wr _)) (by simp [Value.oneCell']) (by omega) (by unfold maxLen; omega) (by omega) (by simp; omega) _ rfl ?_; intro g2 cap2 w1 hown1 hgrow hat hlt2; have HO1 := Lib.hid hown1; have HGR := Lib.hid hgrow; clear hown1 hgrow hat hlt2))
          go_roundw
          case rel =>
            refine ⟨k + 1, by go_num, by omega, ?_, ?_⟩
            · rw [HS.out, nats_append, ints_append, List.length_append]; exact HO1.out
            · exact below_keep HB.out hwz HGR.out (below_alloc _ _) (fun r hr => (HO.out.lt r hr).1)
          case measure => simp [intOf]; omega
    · obtain rfl : k = N := by omega
      go_wp2_with fail
      go_ret
      exact ⟨_, rfl, HO.out, HB.out⟩
set_option maxHeartbeats 1600000 in
set_option maxRecDepth 100000 in
theorem May10_any (w : World) (base bp N : Nat) (s : St) (gi ci ga ca : Nat) (Aa : Option Addr) (vs : List Value) (v : Int) (hr : Rest10 w base bp N s gi ci ga ca Aa vs) (hN : N ≤ 1000) :
    Calls Try.prog 109 #[.pointer (some ⟨bp, 0, none⟩), .int .i64 v] w fun e w' => e = .returned (.bool (mayS N s v)) ∧ Below w.heap.size w w' := by
  obtain ⟨p0, p1, _, _⟩ := cells2 hr.hp
  have hci1 := (Sl.of_own' hr.inn).cap
  have hci2 := (Sl.of_own' hr.inn).capm
  have HR := Lib.hid hr
  clear hr
  by_cases h1 : v < 0
  · have HF := Lib.hid (show mayS N s v = false by have : ¬ 0 ≤ v := by omega
                                                   simp [mayS, this])
    have h1' : ¬ 0 ≤ v := by omega
    clear h1
    go_enter Try.func109, Try.ntmps109
    go_wp2_with fail
    go_ret
    exact ⟨ret_bool HF.out.symm, Below.refl _ _⟩
  by_cases h2 : (N : Int) ≤ v
  · have HF := Lib.hid (show mayS N s v = false by have : ¬ v < N := by omega
                                                   simp [mayS, this])
    have h2' : ¬ v < N := by omega
    clear h2
    go_enter Try.func109, Try.ntmps109
    go_wp2_with fail
    go_ret
    exact ⟨ret_bool HF.out.symm, Below.refl _ _⟩
  obtain ⟨x, rfl⟩ : ∃ x : Nat, v = x := ⟨v.toNat, by omega⟩
  have hx : x < N := by omega
  have q3 := HR.out.in_cell hx
  cases h3 : s.inn x
  · rw [h3] at q3
    have HF := Lib.hid (show mayS N s x = false by simp [mayS, h3])
    go_enter Try.func109, Try.ntmps109
    go_wp2_with fail
    go_ret
    exact ⟨ret_bool HF.out.symm, Below.refl _ _⟩
  · rw [h3] at q3
    have HF := Lib.hid (show mayS N s x = decide ((nearS N s x).length ≤ 2) by simp [mayS, h3, hx])
    clear h3
    go_enter Try.func109, Try.ntmps109
    go_wp2_with ((go_at_call 110; refine (Near10_any _ base bp N s gi ci ga ca Aa vs x HR.out hx hN).mono ?_; rintro e w' ⟨u, rfl, hown, hb⟩; obtain ⟨A, c, rfl, hsl⟩ := Sl.of_own hown; have HB := Lib.hid hb; clear hown hb hsl))
    go_ret
    refine ⟨ret_bool ?_, HB.out⟩
    rw [HF.out]
    by_cases h4 : (nearS N s x).length ≤ 2
    · rw [decide_eq_true h4]; simp; omega
    · rw [decide_eq_false h4]; simp; omega
end Go.Proofs.Ytcbojlidfabgeaa
