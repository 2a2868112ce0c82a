/- graph.near: what its function value does, round by round. Conditions: a right graph. -/
import Derived.Test.YtcbojlidfabgeaaG2
import Derived.RangeFuncNested
import Derived.RangeFuncBound
import Derived.RangeFuncCalls
import Derived.RangeFuncLeaves
import Derived.Shelf.Abstract
import Derived.Shelf.RegionOpen
import Derived.WalkKit
import Derived.OwnWalkIn
import Derived.TacticsInMore
import Derived.LoopNIn
import Derived.LoopIn
namespace Go.Proofs.Ytcbojlidfabgeaa
open Go.RowKit Go.Shelf
set_option linter.unusedVariables false
set_option linter.unusedSimpArgs false
attribute [local go_sem] Oper.semAt_some

/-- The neighbours of a vertex, in the order of the edges. -/
def nbOf (v : Int) (e : Int × Int) : List Int := if e.2 = v then [e.1] else if e.1 = v then [e.2] else []
def nbL (es : List (Int × Int)) (v : Int) : List Int := es.flatMap (nbOf v)
theorem nbL_snoc (es : List (Int × Int)) (e : Int × Int) (v : Int) : nbL (es ++ [e]) v = nbL es v ++ nbOf v e := by simp [nbL]
theorem nbL_take {es : List (Int × Int)} {k : Nat} {e : Int × Int} (h : es[k]? = some e) (v : Int) : nbL (es.take (k + 1)) v = nbL (es.take k) v ++ nbOf v e := by
  rw [take_snoc_any h, nbL_snoc]
theorem nbL_prefix (es : List (Int × Int)) (k : Nat) (v : Int) : nbL (es.take k) v <+: nbL es v := by
  have : nbL es v = nbL (es.take k) v ++ nbL (es.drop k) v := by
    unfold nbL
    rw [← List.flatMap_append, List.take_append_drop]
  exact ⟨_, this.symm⟩
theorem lt_trans_e {p q r : Int × Int} (h1 : ltEdge p q = true) (h2 : ltEdge q r = true) : ltEdge p r = true := by
  simp [ltEdge] at *; omega
theorem right_lt {n : Int} {es : List (Int × Int)} (h : rightB n es = true) : ∀ (d m : Nat) (p q : Int × Int), es[m]? = some p → es[m + d + 1]? = some q → ltEdge p q = true := by
  intro d
  induction d with
  | zero => intro m p q hp hq; exact right_next h hp hq
  | succ d ih =>
    intro m p q hp hq
    obtain ⟨r, hr⟩ : ∃ r, es[m + d + 1]? = some r := ⟨_, List.getElem?_eq_getElem (by have := (List.getElem?_eq_some_iff.1 hq).1; omega)⟩
    exact lt_trans_e (ih m p r hp hr) (right_next h hr hq)
/-- Behind an edge that begins above v there is no neighbour of v. -/
theorem nbL_end {n : Int} {es : List (Int × Int)} (h : rightB n es = true) {k : Nat} {x y v : Int} (he : es[k]? = some (x, y)) (hx : v < x) : nbL es v = nbL (es.take k) v := by
  have hz : nbL (es.drop k) v = [] := by
    unfold nbL
    rw [List.flatMap_eq_nil_iff]
    intro e hm
    obtain ⟨j, hj⟩ := List.mem_iff_getElem?.1 hm
    rw [List.getElem?_drop] at hj
    obtain ⟨a, b⟩ := e
    obtain ⟨h0, h1, h2⟩ := right_range h hj
    have hxa : x ≤ a := by
      cases j with
      | zero => simp only [Nat.add_zero] at hj; rw [he] at hj; cases hj; omega
      | succ j =>
        have := right_lt h j k (x, y) (a, b) he (by rw [← hj]; congr 1)
        simp [ltEdge] at this; omega
    simp only [nbOf]
    rw [if_neg (show ¬ b = v by omega), if_neg (show ¬ a = v by omega)]
  have : nbL es v = nbL (es.take k) v ++ nbL (es.drop k) v := by
    unfold nbL
    rw [← List.flatMap_append, List.take_append_drop]
  rw [this, hz, List.append_nil]

/-- What a round that goes on keeps: the blocks below m₀ but for oB, and all blocks of edges. -/
def KX (m₀ oB : Nat) (W W' : World) : Prop := W.heap.size ≤ W'.heap.size ∧ ∀ (g : Nat) (cs : Array Value) (t : TypeId) (fr : Nat × Nat), W.heap[g]? = some (.cells cs t fr) → ((g < m₀ ∧ g ≠ oB) ∨ t = 59) → W'.heap[g]? = some (.cells cs t fr)
theorem KX.refl (m₀ oB : Nat) (W : World) : KX m₀ oB W W := ⟨Nat.le_refl _, fun _ _ _ _ h _ => h⟩
theorem KX.trans {m₀ oB : Nat} {A B C : World} (h : KX m₀ oB A B) (k : KX m₀ oB B C) : KX m₀ oB A C := ⟨Nat.le_trans h.1 k.1, fun g cs t fr hg hc => k.2 g cs t fr (h.2 g cs t fr hg hc) hc⟩
theorem KX.below {m₀ oB : Nat} {A B : World} (h : Below A.heap.size A B) : KX m₀ oB A B := ⟨h.size, fun g cs t fr hg _ => (h.block g (Array.getElem?_eq_some_iff.1 hg).1).trans hg⟩
theorem KX.alloc {m₀ oB : Nat} {A B : World} (h : KX m₀ oB A B) (o : Obj) : KX m₀ oB A (B.alloc o) := h.trans (KX.below (below_alloc B o))
theorem KX.putObj {m₀ oB : Nat} (W : World) (l : Nat) (o o' : Obj) (h : W.heap[l]? = some o) (ho : o.isCells = false) : KX m₀ oB W (W.putObj l o') := by
  refine ⟨by simp, fun g cs t fr hg _ => ?_⟩
  have hne : g ≠ l := by
    intro e
    subst e
    rw [h] at hg
    cases hg
    simp [Obj.isCells] at ho
  rw [World.putObj_heap_other hne]
  exact hg
theorem KX.cell {m₀ oB : Nat} {W W' : World} (hk : KX m₀ oB W W') {a : Addr} {u : Value} (h : W.cell? a = some u) (h1 : a.block < m₀) (h2 : a.block ≠ oB) : W'.cell? a = some u := by
  cases ho : W.heap[a.block]? with
  | none => simp [World.cell?, ho] at h
  | some o =>
    cases o with
    | cells cs t fr =>
      rw [← h]
      exact World.cell?_of_block ((hk.2 _ _ _ _ ho (.inl ⟨h1, h2⟩)).trans ho.symm)
    | _ => simp [World.cell?, ho] at h

set_option maxRecDepth 100000 in
set_option maxHeartbeats 1600000 in
theorem near1_in (F : Fence) (n : Nat) (h92 : F.fn 92) (hro : F.round = none) (hn : 1 ≤ n) (l gB vB N : Nat) (A : Option Addr) (c : Nat) (es : List (Int × Int)) (v : Int) (w0 : World) (hright : rightB N es = true) (J Jx : List Int → World → Prop)
    (hgl : gB < w0.heap.size) (hvl : vB < w0.heap.size) (hg : w0.cell? ⟨gB, 1, none⟩ = some (.slice A es.length c)) (hv : w0.cell? ⟨vB, 0, none⟩ = some (.int .i64 v)) (hS : Sl w0 A es.length c 2 (edgeCells es)) (m₀ oB : Nat) (hm₀ : m₀ ≤ w0.heap.size) (hvm : vB < m₀ ∧ vB ≠ oB) (hbm : 0 < es.length → ∀ b off, A = some ⟨b, off, none⟩ → b < m₀ ∧ b ≠ oB)
    (W : World) (hW : Below w0.heap.size w0 W) (hJ : AbidesFrom W.heap.size J) (hJx : AbidesFrom W.heap.size Jx)
    (hY : ∀ pre x W, J pre W → pre.length < (nbL es v).length + 1 → YieldAt F (n - 1) Try.prog l #[.int .i64 x] W fun e W' =>
      (e = .returned (.bool true) ∧ J (pre ++ [x]) W' ∧ KX m₀ oB W W') ∨ (e = .returned (.bool false) ∧ Jx (pre ++ [x]) W'))
    (h0 : J [] W) :
    CallsIn F n Try.prog 92 #[.func (.yield l) #[] #[], .pointer (some ⟨gB, 0, none⟩), .pointer (some ⟨vB, 0, none⟩)] W fun e W' => (∃ u, e = .returned u) ∧
      ((∃ ys, ys = nbL es v ∧ J ys W') ∨ (∃ pre, pre <+: nbL es v ∧ Jx pre W')) := by
  have hm := hS.nm
  have g1 := cell_keep hW hg
  have g2 := cell_keep hW hv
  refine callsIn_of_wp Try.func92 rfl h92 ?_ hro
  simp only [Try.ntmps92, List.size_toArray, List.length_cons, List.length_nil, Nat.reduceAdd, Nat.reduceSub, Array.replicate_succ, Array.replicate_zero, List.push_toArray, List.append_toArray, List.nil_append, List.cons_append]
  gi_wp2
  gi_loopw [9] (fun i wr => ∃ k : Nat, i = .int .i64 k ∧ k ≤ es.length ∧ Hid (J (nbL (es.take k) v) wr) ∧ Hid (KX m₀ oB W wr)) (fun i _ => es.length - (intOf i).toNat)
  case atStart => exact ⟨0, rfl, Nat.zero_le _, Lib.hid (by simpa [nbL] using h0), KX.refl _ _ _⟩
  case round =>
    obtain ⟨k, rfl, hk, HJK, HK⟩ := hrel
    have hsz := HK.out.1
    have hws := hW.size
    by_cases hlt : k < es.length
    · obtain ⟨b, off, hA, hc⟩ := hS.at' (by omega)
      subst hA
      obtain ⟨⟨x, y⟩, he⟩ : ∃ e, es[k]? = some e := ⟨_, List.getElem?_eq_getElem hlt⟩
      obtain ⟨r1, r2, r3⟩ := right_range hright he
      obtain ⟨hb1, hb2⟩ := hbm (by omega) b off rfl
      have d0 := HK.out.cell (cell_keep hW (hc _ _ (edgeCells_get he).1)) hb1 hb2
      have d1 := HK.out.cell (cell_keep hW (hc _ _ (edgeCells_get he).2)) hb1 hb2
      have d2 := HK.out.cell g2 hvm.1 hvm.2
      simp only [← Nat.add_assoc] at d0 d1
      have hlen : (nbL (es.take k) v).length < (nbL es v).length + 1 := by
        have := (nbL_prefix es k v).length_le
        omega
      have hvw : vB < wr.heap.size := by omega
      have hvn : ¬ vB = wr.heap.size := by omega
      have HTK := Lib.hid (nbL_take he v)
      have HPF := Lib.hid (nbL_prefix es (k + 1) v)
      have HEND := Lib.hid (fun h => nbL_end hright he (v := v) h)
      have HJA := Lib.hid (show J (nbL (es.take k) v) (wr.alloc (Obj.cells #[Value.int .i64 x, Value.int .i64 y] 59)) from hJ _ wr _ none HJK.out (World.grownBy_alloc wr _ none) (fun r e => by cases e))
      have HKA := Lib.hid (show KX m₀ oB W (wr.alloc (Obj.cells #[Value.int .i64 x, Value.int .i64 y] 59)) from HK.out.alloc _)
      have HX := Lib.hid (show (wr.alloc (Obj.cells #[Value.int .i64 x, Value.int .i64 y] 59)).heap[wr.heap.size]? = some (.cells #[.int .i64 x, .int .i64 y] 59 (0, 0)) from heap_alloc_new wr _)
      clear hc he hv hg g1 hS hJ hJx
      by_cases hxv : v < x
      · gi_wp2
        refine bodyPost_ret (results_none rfl _ _ _) rfl ?_
        exact ⟨⟨_, rfl⟩, .inl ⟨_, (HEND.out hxv).symm, HJA.out⟩⟩
      · by_cases hyv : y = v
        · subst hyv
          have HN := Lib.hid (show nbOf y (x, y) = [x] by simp [nbOf])
          obtain ⟨fn, tmps, assign, body, hy, hR⟩ := hY _ x _ HJA.out hlen
          have HR := Lib.hid hR
          clear hY hR
          have q1 : (x == y) = false := by simp; omega
          gi_wp2
          refine HR.out.mono ?_
          rintro e W3 (⟨rfl, hJ3, hk3⟩ | ⟨rfl, hJx3⟩)
          · have HJ3 := Lib.hid hJ3
            have HK3 := Lib.hid hk3
            have hx3 := hk3.2 _ _ _ _ HX.out (.inr rfl)
            obtain ⟨c0, c1, _, _⟩ := cells2 hx3
            have c2 := (HKA.out.trans hk3).cell g2 hvm.1 hvm.2
            clear hJ3 hk3
            gi_wp2
            refine ⟨fun _ h => (by cases h), ?_⟩
            gi_wp2
            go_roundw
            case rel => exact ⟨k + 1, by go_num, by omega, Lib.hid (by rw [HTK.out, HN.out]; exact HJ3.out), HKA.out.trans HK3.out⟩
            case measure => simp [intOf]; omega
          · gi_wp2
            refine bodyPost_ret (results_none rfl _ _ _) rfl ?_
            exact ⟨⟨_, rfl⟩, .inr ⟨_, by rw [HTK.out, HN.out] at HPF; exact HPF.out, hJx3⟩⟩
        · have q2 : (y == v) = false := by simpa using hyv
          by_cases hxe : x = v
          · subst hxe
            have HN := Lib.hid (show nbOf x (x, y) = [y] by simp [nbOf, hyv])
            obtain ⟨fn, tmps, assign, body, hy, hR⟩ := hY _ y _ HJA.out hlen
            have HR := Lib.hid hR
            clear hY hR
            gi_wp2
            refine ⟨fun _ h => (by cases h), ?_⟩
            gi_wp2
            refine HR.out.mono ?_
            rintro e W3 (⟨rfl, hJ3, hk3⟩ | ⟨rfl, hJx3⟩)
            · have HJ3 := Lib.hid hJ3
              have HK3 := Lib.hid hk3
              clear hJ3 hk3
              gi_wp2
              go_roundw
              case rel => exact ⟨k + 1, by go_num, by omega, Lib.hid (by rw [HTK.out, HN.out]; exact HJ3.out), HKA.out.trans HK3.out⟩
              case measure => simp [intOf]; omega
            · gi_wp2
              refine bodyPost_ret (results_none rfl _ _ _) rfl ?_
              exact ⟨⟨_, rfl⟩, .inr ⟨_, by rw [HTK.out, HN.out] at HPF; exact HPF.out, hJx3⟩⟩
          · have q3 : (x == v) = false := by simpa using hxe
            have HN := Lib.hid (show nbOf v (x, y) = [] by simp [nbOf, hyv, hxe])
            clear hY
            gi_wp2
            refine ⟨fun _ h => (by cases h), ?_⟩
            gi_wp2
            go_roundw
            case rel => exact ⟨k + 1, by go_num, by omega, Lib.hid (by rw [HTK.out, HN.out, List.append_nil]; exact HJA.out), HKA.out⟩
            case measure => simp [intOf]; omega
    · obtain rfl : k = es.length := by omega
      gi_wp2
      go_end0
      exact ⟨⟨_, rfl⟩, .inl ⟨_, by rw [List.take_length], HJK.out⟩⟩
end Go.Proofs.Ytcbojlidfabgeaa
