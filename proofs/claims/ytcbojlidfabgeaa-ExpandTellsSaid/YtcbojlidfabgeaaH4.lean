/- The program's layer 10: log of what is left. Conditions: at most 1000 vertices. -/
import Derived.Test.YtcbojlidfabgeaaH1
namespace Go.Proofs.Ytcbojlidfabgeaa
open Go.RowKit
set_option linter.unusedVariables false
set_option linter.unusedSimpArgs false

def leftS (s : St) (k : Nat) : List Int := nats ((List.range k).filter fun x => s.inn x)
def upE (v : Int) (u : List Int) : List (Int × Int) := (u.filter fun x => decide (v < x)).map fun x => (v, x)
def edgesS (N : Nat) (s : St) (k : Nat) : List (Int × Int) := (List.range k).flatMap fun (v : Nat) => upE v (rowOf N s v)
theorem leftS_succ (s : St) (k : Nat) : leftS s (k + 1) = if s.inn k then leftS s k ++ [(k : Int)] else leftS s k := by
  unfold leftS
  rw [List.range_succ, List.filter_append]
  cases h : s.inn k <;> simp [h, nats]
theorem leftS_len (s : St) (k : Nat) : (leftS s k).length ≤ k := by
  unfold leftS
  have := List.length_filter_le (fun x => s.inn x) (List.range k)
  simpa [nats] using this
theorem edgesS_succ (N : Nat) (s : St) (k : Nat) : edgesS N s (k + 1) = edgesS N s k ++ upE k (rowOf N s k) := by
  unfold edgesS
  rw [List.range_succ, List.flatMap_append]; simp
theorem upE_len (v : Int) (u : List Int) : (upE v u).length ≤ u.length := by
  unfold upE
  rw [List.length_map]
  exact List.length_filter_le _ _
theorem edgesS_len (N : Nat) (s : St) (k : Nat) : (edgesS N s k).length ≤ N * k := by
  induction k with
  | zero => simp [edgesS]
  | succ k ih =>
    have h1 := upE_len k (rowOf N s k)
    have h2 := rowOf_len N s k
    rw [edgesS_succ, List.length_append, Nat.mul_succ]
    omega
theorem upE_succ {u : List Int} {j : Nat} {x : Int} (h : u[j]? = some x) (v : Int) : upE v (u.take (j + 1)) = if v < x then upE v (u.take j) ++ [(v, x)] else upE v (u.take j) := by
  rw [take_snoc' h]
  unfold upE
  rw [List.filter_append]
  by_cases hx : v < x <;> simp [hx]

structure LogP (w wr : World) (sv : Value) (N gn cn gg cg : Nat) (lv ev : Value) (L : List Int) (E : List (Int × Int)) : Prop where
  bx : wr.heap[w.heap.size]? = some (.cells #[.slice (some ⟨gn, 0, none⟩) N cn, .slice (some ⟨gg, 0, none⟩) N cg] 101 (0, 0))
  rb : wr.heap[w.heap.size + 1]? = some (.cells #[.slice none 0 0, .slice none 0 0, .slice none 0 0] 50 (0, 0))
  ob : wr.heap[w.heap.size + 1 + 1]? = some (.cells #[sv, lv, ev] 50 (0, 0))
  left : wr.ownsRow w.heap.size 3 1 lv L.length (ints L)
  edges : wr.ownsRow w.heap.size 59 2 ev E.length (edgeCells E)
  low : Below w.heap.size w wr
section
variable {w wr w1 : World} {sv : Value} {N gn cn gg cg : Nat} {lv ev : Value} {L : List Int} {E : List (Int × Int)} {o : Obj} {g cap : Nat}
theorem LogP.left_next {x : Int} (h : LogP w wr sv N gn cn gg cg lv ev L E)
    (hg : (wr.alloc o).grownBy w1 lv.ownBlock) (ho : w1.ownsRow w.heap.size 3 1 (.slice (some ⟨g, 0, none⟩) (L.length + 1) cap) (L.length + 1) (ints L ++ [.int .i64 x])) :
    LogP w (w1.setCell ⟨w.heap.size + 1 + 1, 1, none⟩ (.slice (some ⟨g, 0, none⟩) (L.length + 1) cap)) sv N gn cn gg cg (.slice (some ⟨g, 0, none⟩) (L.length + 1) cap) ev (L ++ [x]) E := by
  have hb := below_alloc wr o
  have ob1 := heap_keep hg hb h.ob (own_block_ne h.left h.ob (by decide))
  have rb1 := heap_keep hg hb h.rb (own_block_ne h.left h.rb (by decide))
  have bx1 := heap_keep hg hb h.bx (own_block_ne h.left h.bx (by decide))
  have e1 := own_keep hg hb h.edges (own_type_ne h.edges h.left (by decide))
  refine ⟨?_, ?_, heap_setCell (cs := [sv, lv, ev]) ob1 _, ?_, own_setCell e1 (own_block_ne e1 ob1 (by decide)), ?_⟩
  · rw [heap_setCell_other _ _ _ _ (by simp; omega)]; exact bx1
  · rw [heap_setCell_other _ _ _ _ (by simp)]; exact rb1
  · rw [List.length_append, ints_append]; exact own_setCell ho (own_block_ne ho ob1 (by decide))
  · exact (below_keep h.low h.low.size hg hb (fun r hr => (h.left.lt r hr).1)).setCell (by simp; omega) _
theorem LogP.edges_next {x y : Int} (h : LogP w wr sv N gn cn gg cg lv ev L E)
    (hg : (wr.alloc o).grownBy w1 ev.ownBlock) (ho : w1.ownsRow w.heap.size 59 2 (.slice (some ⟨g, 0, none⟩) (E.length + 1) cap) (E.length + 1) (edgeCells E ++ [.int .i64 x, .int .i64 y])) :
    LogP w (w1.setCell ⟨w.heap.size + 1 + 1, 2, none⟩ (.slice (some ⟨g, 0, none⟩) (E.length + 1) cap)) sv N gn cn gg cg lv (.slice (some ⟨g, 0, none⟩) (E.length + 1) cap) L (E ++ [(x, y)]) := by
  have hb := below_alloc wr o
  have ob1 := heap_keep hg hb h.ob (own_block_ne h.edges h.ob (by decide))
  have rb1 := heap_keep hg hb h.rb (own_block_ne h.edges h.rb (by decide))
  have bx1 := heap_keep hg hb h.bx (own_block_ne h.edges h.bx (by decide))
  have e1 := own_keep hg hb h.left (own_type_ne h.left h.edges (by decide))
  refine ⟨?_, ?_, heap_setCell (cs := [sv, lv, ev]) ob1 _, own_setCell e1 (own_block_ne e1 ob1 (by decide)), ?_, ?_⟩
  · rw [heap_setCell_other _ _ _ _ (by simp; omega)]; exact bx1
  · rw [heap_setCell_other _ _ _ _ (by simp)]; exact rb1
  · rw [List.length_append, edgeCells_append]; exact own_setCell ho (own_block_ne ho ob1 (by decide))
  · exact (below_keep h.low h.low.size hg hb (fun r hr => (h.edges.lt r hr).1)).setCell (by simp; omega) _
end
set_option maxHeartbeats 3200000 in
set_option maxRecDepth 100000 in
theorem Log_any (w : World) (base N : Nat) (s : St) (gn cn gg cg : Nat) (vs : List Value) (A : Option Addr) (n c : Nat) (hr : RestP w base N s gn cn gg cg vs) (hN : N ≤ 1000) :
    Calls Try.prog 55 #[restV N gn cn gg cg, .slice A n c] w fun e w' => (∃ Al cl Ae ce, e = .returned (.agg #[.slice A n c, .slice Al (leftS s N).length cl, .slice Ae (edgesS N s N).length ce]) ∧ w'.ownsRow w.heap.size 3 1 (.slice Al (leftS s N).length cl) (leftS s N).length (ints (leftS s N)) ∧ w'.ownsRow w.heap.size 59 2 (.slice Ae (edgesS N s N).length ce) (edgesS N s N).length (edgeCells (edgesS N s N))) ∧ Below w.heap.size w w' := by
  have HR := Lib.hid hr
  have hci1 := hr.gone_nm
  have hca1 := hr.cap
  clear hr
  obtain ⟨i0, hi, hz0, hz1, hz2⟩ := info_parts info3
  obtain ⟨i1, hj, hy0, hy1, hy2⟩ := info_parts info59
  unfold restV
  go_enter Try.func55, Try.ntmps55
  go_wp2_with fail
  go_loopw [15] (fun i wr => ∃ k : Nat, i = .int .i64 k ∧ k ≤ N ∧ ∃ lv ev, Hid (LogP w wr (.slice A n c) N gn cn gg cg lv ev (leftS s k) (edgesS N s k))) (fun i _ => N - (intOf i).toNat)
  case atStart =>
    refine ⟨0, rfl, Nat.zero_le _, .slice none 0 0, .slice none 0 0, ?_⟩
    rw [show leftS s 0 = [] from rfl, show edgesS N s 0 = [] from rfl]
    refine ⟨?_, ?_, ?_, World.ownsRow_nil _ _ _ _, World.ownsRow_nil _ _ _ _, below_join (below_join (below_alloc _ _) (below_alloc _ _)) (below_alloc _ _)⟩
    · exact (alloc3 w _ _ _).1
    · exact (alloc3 w _ _ _).2.1
    · exact (alloc3 w _ _ _).2.2
  case round =>
    obtain ⟨k, rfl, hk, lv, ev, HI⟩ := hrel
    have HR1 := Lib.hid (HR.out.below HI.out.low)
    obtain ⟨q0, q1, _, _⟩ := cells2 HI.out.bx
    obtain ⟨o0, o1, o2, of0, of1, of2⟩ := cells3 HI.out.ob
    have hob := (Array.getElem?_eq_some_iff.1 HI.out.ob).1
    by_cases hlt : k < N
    · have r0 := HR1.out.gone_cell hlt
      obtain ⟨Ar, cr, _, _, _, hsl, r1w⟩ := HR.out.row hlt
      have r1 := cell_keep HI.out.low r1w
      clear r1w
      have hnl := leftS_len s k
      have hrl := rowOf_len N s k
      have hrm := hsl.nm
      have HSL := Lib.hid hsl
      clear hsl
      cases hin : s.inn k
      · simp only [hin, Bool.not_false] at r0
        have HE := Lib.hid (show leftS s (k + 1) = leftS s k by rw [leftS_succ, hin]; rfl)
        have HF := Lib.hid (show edgesS N s (k + 1) = edgesS N s k by rw [edgesS_succ, rowOf, hin]; simp [upE])
        go_wp2_with fail
        go_roundw
        case rel => exact ⟨k + 1, by go_num, by omega, lv, ev, by rw [HE.out, HF.out]; exact HI.out⟩
        case measure => simp [intOf]; omega
      · simp only [hin, Bool.not_true] at r0
        have HE := Lib.hid (show leftS s (k + 1) = leftS s k ++ [(k : Int)] by rw [leftS_succ, hin]; rfl)
        have HF := Lib.hid (edgesS_succ N s k)
        have hne := edgesS_len N s k
        have hnk : N * k ≤ 1000000 := Nat.mul_le_mul hN (by omega : k ≤ 1000)
        go_wp2_with ((at_builtin; refine wpList_append_lies _ rfl _ _ 30 rfl w.heap.size 3 i0 (Value.int .i64 0) 1 8 Try.underlying30 hi hz0 hz1 hz2 rfl (by decide) lv (leftS s k).length (ints (leftS s k)) rfl (HI.out.left.alloc _) ⟨wr.heap.size, 0, none⟩ 1 1 [Value.int .i64 (k : Int)] rfl rfl (World.news_of_block (cs := #[Value.int .i64 (k : Int)]) (t := 3) (fr := (0, 0)) (heap_alloc_new wr _)) (by simp [Value.oneCell']) (by omega) (by unfold maxLen; omega) (by omega) (by simp; omega) _ rfl ?_; intro g2 cap2 w1 hown1 hgrow hat hlt2; have hk1 := heap_keep hgrow (below_alloc _ _) HI.out.ob (own_block_ne HI.out.left HI.out.ob (by decide)); obtain ⟨s0, s1, s2, sf0, sf1, sf2⟩ := cells3 hk1; have HI1 := Lib.hid (HI.out.left_next hgrow hown1); clear hown1 hgrow hat hlt2 hk1))
        obtain ⟨w2, hw2⟩ : ∃ w2 : World, w1.setCell ⟨w.heap.size + 1 + 1, 1, none⟩ (Value.slice (some ⟨g2, 0, none⟩) ((leftS s k).length + 1) cap2) = w2 := ⟨_, rfl⟩
        rw [hw2] at HI1 ⊢
        clear hw2 HI q0 q1 o0 o1 o2 of0 of1 of2 hob r0 r1 s0 s1 s2 sf0 sf1 sf2 HR1 hin
        go_loopw [33] (fun i wq => ∃ x : Nat, i = .int .i64 x ∧ x ≤ (rowOf N s k).length ∧ ∃ lv ev, Hid (LogP w wq (.slice A n c) N gn cn gg cg lv ev (leftS s k ++ [(k : Int)]) (edgesS N s k ++ upE k ((rowOf N s k).take x)))) (fun i _ => (rowOf N s k).length - (intOf i).toNat)
        case atStart => exact ⟨0, rfl, Nat.zero_le _, _, _, by rw [show edgesS N s k ++ upE k ((rowOf N s k).take 0) = edgesS N s k by simp [upE]]; exact HI1.out⟩
        case round =>
          obtain ⟨x, rfl, hx, lv, ev, HI⟩ := hrel
          have HR1 := Lib.hid (HR.out.below HI.out.low)
          obtain ⟨q0, q1, _, _⟩ := cells2 HI.out.bx
          obtain ⟨o0, o1, o2, of0, of1, of2⟩ := cells3 HI.out.ob
          have hob := (Array.getElem?_eq_some_iff.1 HI.out.ob).1
          by_cases hxt : x < (rowOf N s k).length
          · obtain ⟨y, hy⟩ : ∃ y, (rowOf N s k)[x]? = some y := ⟨_, List.getElem?_eq_getElem hxt⟩
            obtain ⟨br, ofr, hAr, hcr⟩ := HSL.out.at' (by omega)
            subst hAr
            have r2 := cell_keep HI.out.low (hcr _ _ (ints_get hy))
            have hul := upE_len k ((rowOf N s k).take x)
            rw [List.length_take] at hul
            have HU := Lib.hid (upE_succ hy (k : Int))
            clear hcr hy
            by_cases hky : (k : Int) < y
            · rw [if_pos hky] at HU
              obtain ⟨E, hE⟩ : ∃ E, edgesS N s k ++ upE k ((rowOf N s k).take x) = E := ⟨_, rfl⟩
              rw [hE] at HI
              have hEl : E.length ≤ 1001000 := by rw [← hE, List.length_append]; omega
              have HEq := Lib.hid hE
              clear hE
              go_wp2_with ((at_builtin; refine wpList_append_lies _ rfl _ _ 22 rfl w.heap.size 59 i1 (Value.agg #[Value.int .i64 0, Value.int .i64 0]) 2 16 Try.underlying22 hj hy0 hy1 hy2 rfl (by decide) ev E.length (edgeCells E) rfl (HI.out.edges.alloc _) ⟨wr.heap.size, 0, none⟩ 1 1 [Value.int .i64 (k : Int), Value.int .i64 y] rfl rfl (World.news_of_block (cs := #[Value.int .i64 (k : Int), Value.int .i64 y]) (t := 59) (fr := (0, 0)) (heap_alloc_new wr _)) (by simp [Value.oneCell']) (by omega) (by unfold maxLen; omega) (by omega) (by simp; omega) _ rfl ?_; intro g3 cap3 w3 hown3 hgrow hat hlt3; have hk3 := heap_keep hgrow (below_alloc _ _) HI.out.ob (own_block_ne HI.out.edges HI.out.ob (by decide)); obtain ⟨s0, s1, s2, sf0, sf1, sf2⟩ := cells3 hk3; have HI3 := Lib.hid (HI.out.edges_next hgrow hown3); clear hown3 hgrow hat hlt3 hk3))
              go_roundw
              case rel => exact ⟨x + 1, by go_num, by omega, _, _, by rw [HU.out, ← List.append_assoc, HEq.out]; exact HI3.out⟩
              case measure => simp [intOf]; omega
            · rw [if_neg hky] at HU
              go_wp2_with fail
              go_roundw
              case rel => exact ⟨x + 1, by go_num, by omega, _, _, by rw [HU.out]; exact HI.out⟩
              case measure => simp [intOf]; omega
          · obtain rfl : x = (rowOf N s k).length := by omega
            go_wp2_with fail
            go_roundw
            case rel => exact ⟨k + 1, by go_num, by omega, _, _, by rw [HE.out, HF.out]; rw [List.take_length] at HI; exact HI.out⟩
            case measure => simp [intOf]; omega
    · obtain rfl : k = N := by omega
      obtain ⟨Al, cl, rfl, _⟩ := Sl.of_own HI.out.left
      obtain ⟨Ae, ce, rfl, _⟩ := Sl.of_own HI.out.edges
      obtain ⟨b0, b1, b2, bf0, bf1, bf2⟩ := cells3 HI.out.rb
      have hrb := (Array.getElem?_eq_some_iff.1 HI.out.rb).1
      obtain ⟨x1, xf1, y2, yf2, z0, z1, z2⟩ := three_sets HI.out.rb (.slice A n c) (.slice Al (leftS s k).length cl) (.slice Ae (edgesS k s k).length ce)
      go_wp2_with fail
      refine bodyPost_ret (v := .agg #[.slice A n c, (.slice Al (leftS s k).length cl), (.slice Ae (edgesS k s k).length ce)]) (by simp [results, Try.results55, go_sem, z0, z1, z2]) rfl ?_
      have three : ∀ {b : Nat} {e : TypeId} {sz m : Nat} {v : Value} {xs : List Value}, wr.ownsRow b e sz v m xs → e ≠ 50 → (((wr.setCell ⟨w.heap.size + 1, 0, none⟩ (.slice A n c)).setCell ⟨w.heap.size + 1, 1, none⟩ (.slice Al (leftS s k).length cl)).setCell ⟨w.heap.size + 1, 2, none⟩ (.slice Ae (edgesS k s k).length ce)).ownsRow b e sz v m xs := fun h he => own_setCell (own_setCell (own_setCell h (own_block_ne h HI.out.rb he)) (own_block_ne h HI.out.rb he)) (own_block_ne h HI.out.rb he)
      refine ⟨⟨_, _, _, _, rfl, ?_, ?_⟩, ?_⟩
      · exact three HI.out.left (by decide)
      · exact three HI.out.edges (by decide)
      · exact ((HI.out.low.setCell (by simp) _).setCell (by simp) _).setCell (by simp) _
end Go.Proofs.Ytcbojlidfabgeaa
