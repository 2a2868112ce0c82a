/- The reference's layer 10: Log of what is left (that it returns). Conditions: at most 1000 vertices. -/
import Derived.Test.YtcbojlidfabgeaaR10c
namespace Go.Proofs.Ytcbojlidfabgeaa
open Go.RowKit
set_option linter.unusedVariables false
set_option linter.unusedSimpArgs false

/-- The log that is being written: the block ob, a row of vertices, a row of edges. -/
structure LogInv (w wr : World) (sv : Value) (ml me : Nat) (lv ev : Value) (nl ne : Nat) (ls es : List Value) : Prop where
  ob : wr.heap[w.heap.size + 1]? = some (.cells #[sv, lv, ev] 137 (0, 0))
  rb : wr.heap[w.heap.size]? = some (.cells #[.slice none 0 0, .slice none 0 0, .slice none 0 0] 137 (0, 0))
  left : wr.ownsRow w.heap.size 3 1 lv nl ls
  edges : wr.ownsRow w.heap.size 59 2 ev ne es
  nl : nl ≤ ml
  ne : ne ≤ me
  low : Below w.heap.size w wr
theorem LogInv.mono {w wr : World} {sv : Value} {ml me ml' me' : Nat} {lv ev : Value} {nl ne : Nat} {ls es : List Value} (h : LogInv w wr sv ml me lv ev nl ne ls es) (h1 : ml ≤ ml') (h2 : me ≤ me') : LogInv w wr sv ml' me' lv ev nl ne ls es :=
  ⟨h.ob, h.rb, h.left, h.edges, Nat.le_trans h.nl h1, Nat.le_trans h.ne h2, h.low⟩
theorem LogInv.left_next {w wr w1 : World} {sv : Value} {ml me : Nat} {lv ev : Value} {nl ne : Nat} {ls es : List Value} {o : Obj} {x : Value} {g cap : Nat} (h : LogInv w wr sv ml me lv ev nl ne ls es)
    (hg : (wr.alloc o).grownBy w1 lv.ownBlock) (ho : w1.ownsRow w.heap.size 3 1 (.slice (some ⟨g, 0, none⟩) (nl + 1) cap) (nl + 1) (ls ++ [x])) :
    LogInv w (w1.setCell ⟨w.heap.size + 1, 1, none⟩ (.slice (some ⟨g, 0, none⟩) (nl + 1) cap)) sv (ml + 1) me (.slice (some ⟨g, 0, none⟩) (nl + 1) cap) ev (nl + 1) ne (ls ++ [x]) es := by
  have hb := below_alloc wr o
  have ob1 := heap_keep hg hb h.ob (own_block_ne h.left h.ob (by decide))
  have rb1 := heap_keep hg hb h.rb (own_block_ne h.left h.rb (by decide))
  have e1 := own_keep hg hb h.edges (own_type_ne h.edges h.left (by decide))
  refine ⟨heap_setCell (cs := [sv, lv, ev]) ob1 _, ?_, own_setCell ho (own_block_ne ho ob1 (by decide)), own_setCell e1 (own_block_ne e1 ob1 (by decide)), by have := h.nl; omega, h.ne, ?_⟩
  · rw [heap_setCell_other _ _ _ _ (by simp)]; exact rb1
  · exact (below_keep h.low h.low.size hg hb (fun r hr => (h.left.lt r hr).1)).setCell (by simp) _
theorem LogInv.edges_next {w wr w1 : World} {sv : Value} {ml me : Nat} {lv ev : Value} {nl ne : Nat} {ls es : List Value} {o : Obj} {x y : Value} {g cap : Nat} (h : LogInv w wr sv ml me lv ev nl ne ls es)
    (hg : (wr.alloc o).grownBy w1 ev.ownBlock) (ho : w1.ownsRow w.heap.size 59 2 (.slice (some ⟨g, 0, none⟩) (ne + 1) cap) (ne + 1) (es ++ [x, y])) :
    LogInv w (w1.setCell ⟨w.heap.size + 1, 2, none⟩ (.slice (some ⟨g, 0, none⟩) (ne + 1) cap)) sv ml (me + 1) lv (.slice (some ⟨g, 0, none⟩) (ne + 1) cap) nl (ne + 1) ls (es ++ [x, y]) := by
  have hb := below_alloc wr o
  have ob1 := heap_keep hg hb h.ob (own_block_ne h.edges h.ob (by decide))
  have rb1 := heap_keep hg hb h.rb (own_block_ne h.edges h.rb (by decide))
  have e1 := own_keep hg hb h.left (own_type_ne h.left h.edges (by decide))
  refine ⟨heap_setCell (cs := [sv, lv, ev]) ob1 _, ?_, own_setCell e1 (own_block_ne e1 ob1 (by decide)), own_setCell ho (own_block_ne ho ob1 (by decide)), h.nl, by have := h.ne; omega, ?_⟩
  · rw [heap_setCell_other _ _ _ _ (by simp)]; exact rb1
  · exact (below_keep h.low h.low.size hg hb (fun r hr => (h.edges.lt r hr).1)).setCell (by simp) _

/-- A block of three, written anew. -/
theorem three_sets {w : World} {g : Nat} {t : TypeId} {a b c : Value} (h : w.heap[g]? = some (.cells #[a, b, c] t (0, 0))) (a' b' c' : Value) :
    (w.setCell ⟨g, 0, none⟩ a').cell? ⟨g, 1, none⟩ = some b ∧ (w.setCell ⟨g, 0, none⟩ a').frozen? ⟨g, 1, none⟩ = false ∧
    ((w.setCell ⟨g, 0, none⟩ a').setCell ⟨g, 1, none⟩ b').cell? ⟨g, 2, none⟩ = some c ∧ ((w.setCell ⟨g, 0, none⟩ a').setCell ⟨g, 1, none⟩ b').frozen? ⟨g, 2, none⟩ = false ∧
    (((w.setCell ⟨g, 0, none⟩ a').setCell ⟨g, 1, none⟩ b').setCell ⟨g, 2, none⟩ c').cell? ⟨g, 0, none⟩ = some a' ∧
    (((w.setCell ⟨g, 0, none⟩ a').setCell ⟨g, 1, none⟩ b').setCell ⟨g, 2, none⟩ c').cell? ⟨g, 1, none⟩ = some b' ∧
    (((w.setCell ⟨g, 0, none⟩ a').setCell ⟨g, 1, none⟩ b').setCell ⟨g, 2, none⟩ c').cell? ⟨g, 2, none⟩ = some c' := by
  have H1 := heap_setCell (cs := [a, b, c]) (i := 0) h a'
  have H2 := heap_setCell (cs := [a', b, c]) (i := 1) H1 b'
  have H3 := heap_setCell (cs := [a', b', c]) (i := 2) H2 c'
  obtain ⟨_, x1, _, _, xf1, _⟩ := cells3 (a := a') (b := b) (c := c) H1
  obtain ⟨_, _, y2, _, _, yf2⟩ := cells3 (a := a') (b := b') (c := c) H2
  obtain ⟨z0, z1, z2, _, _, _⟩ := cells3 (a := a') (b := b') (c := c') H3
  exact ⟨x1, xf1, y2, yf2, z0, z1, z2⟩

set_option maxHeartbeats 3200000 in
set_option maxRecDepth 100000 in
theorem Log10_any (w : World) (base bp N : Nat) (s : St) (gi ci ga ca : Nat) (Aa : Option Addr) (vs : List Value) (A : Option Addr) (n c : Nat) (hr : Rest10 w base bp N s gi ci ga ca Aa vs) (hN : N ≤ 1000) :
    Calls Try.prog 111 #[.pointer (some ⟨bp, 0, none⟩), .slice A n c] w fun e w' => ∃ Al nl cl Ae ne ce, e = .returned (.agg #[.slice A n c, .slice Al nl cl, .slice Ae ne ce]) ∧ Below w.heap.size w w' := by
  have HR := Lib.hid hr
  have hci1 := (Sl.of_own' hr.inn).cap
  have hci2 := (Sl.of_own' hr.inn).capm
  have hca1 := hr.capa.1
  have hca2 := hr.capa.2
  clear hr
  obtain ⟨i0, hi, hz0, hz1, hz2⟩ := info_parts info3
  obtain ⟨i1, hj, hy0, hy1, hy2⟩ := info_parts info59
  go_enter Try.func111, Try.ntmps111
  go_wp2_with fail
  go_loopw [6] (fun i wr => ∃ k : Nat, i = .int .i64 k ∧ k ≤ N ∧ ∃ lv ev nl ne ls es, Hid (LogInv w wr (.slice A n c) k (1000 * k) lv ev nl ne ls es)) (fun i _ => N - (intOf i).toNat)
  case atStart =>
    refine ⟨0, rfl, Nat.zero_le _, .slice none 0 0, .slice none 0 0, 0, 0, [], [], ?_⟩
    refine ⟨?_, ?_, World.ownsRow_nil _ _ _ _, World.ownsRow_nil _ _ _ _, Nat.le_refl _, Nat.le_refl _, below_join (below_alloc _ _) (below_alloc _ _)⟩
    · have := heap_alloc_new (w.alloc (Obj.cells #[.slice none 0 0, .slice none 0 0, .slice none 0 0] 137)) (Obj.cells #[.slice A n c, .slice none 0 0, .slice none 0 0] 137)
      rwa [World.size_alloc] at this
    · rw [Below.heap_alloc _ _ _ (by simp), heap_alloc_new]
  case round =>
    obtain ⟨k, rfl, hk, lv, ev, nl, ne, ls, es, HI⟩ := hrel
    have HR1 := Lib.hid (HR.out.below HI.out.low)
    obtain ⟨q0, q1, _, _⟩ := cells2 HR1.out.hp
    obtain ⟨o0, o1, o2, of0, of1, of2⟩ := cells3 HI.out.ob
    have hob := (Array.getElem?_eq_some_iff.1 HI.out.ob).1
    by_cases hlt : k < N
    · have hA := HR.out.hA (by omega)
      subst hA
      have r0 := HR1.out.in_cell hlt
      have hnl := HI.out.nl
      cases hin : s.inn k
      · rw [hin] at r0
        go_wp2_with fail
        go_roundw
        case rel => exact ⟨k + 1, by go_num, by omega, lv, ev, nl, ne, ls, es, HI.out.mono (by omega) (by omega)⟩
        case measure => simp [intOf]; omega
      · rw [hin] at r0
        go_wp2_with ((at_builtin; refine wpList_append_lies _ rfl _ _ 30 rfl w.heap.size 3 i0 (Value.int .i64 0) 1 8 Try.underlying30 hi hz0 hz1 hz2 rfl (by decide) lv nl ls rfl (HI.out.left.alloc _) ⟨wr.heap.size, 0, none⟩ 1 1 [Value.int .i64 (k : Int)] rfl rfl (World.news_of_block (cs := #[Value.int .i64 (k : Int)]) (t := 3) (fr := (0, 0)) (heap_alloc_new wr _)) (by simp [Value.oneCell']) (by omega) (by unfold maxLen; omega) (by omega) (by simp; omega) _ rfl ?_; intro g2 cap2 w1 hown1 hgrow hat hlt2; have hk1 := heap_keep hgrow (below_alloc _ _) HI.out.ob (own_block_ne HI.out.left HI.out.ob (by decide)); obtain ⟨s0, s1, s2, sf0, sf1, sf2⟩ := cells3 hk1; have HI1 := Lib.hid (HI.out.left_next hgrow hown1); clear hown1 hgrow hat hlt2 hk1))
        obtain ⟨w2, hw2⟩ : ∃ w2 : World, w1.setCell ⟨w.heap.size + 1, 1, none⟩ (Value.slice (some ⟨g2, 0, none⟩) (nl + 1) cap2) = w2 := ⟨_, rfl⟩
        rw [hw2] at HI1 ⊢
        clear hw2 HI q0 q1 o0 o1 o2 of0 of1 of2 hob r0 s0 s1 s2 sf0 sf1 sf2 HR1 hin hnl
        go_loopw [7] (fun i wq => ∃ x : Nat, i = .int .i64 x ∧ k + 1 ≤ x ∧ x ≤ N ∧ ∃ lv ev nl ne ls es, Hid (LogInv w wq (.slice A n c) (k + 1) (1000 * k + x) lv ev nl ne ls es)) (fun i _ => N - (intOf i).toNat)
        case atStart => exact ⟨k + 1, by go_num, Nat.le_refl _, by omega, _, _, _, _, _, _, HI1.out.mono (Nat.le_refl _) (by omega)⟩
        case round =>
          obtain ⟨x, rfl, hx1, hx2, lv, ev, nl, ne, ls, es, HI⟩ := hrel
          have HR1 := Lib.hid (HR.out.below HI.out.low)
          obtain ⟨q0, q1, _, _⟩ := cells2 HR1.out.hp
          obtain ⟨o0, o1, o2, of0, of1, of2⟩ := cells3 HI.out.ob
          have hob := (Array.getElem?_eq_some_iff.1 HI.out.ob).1
          by_cases hxt : x < N
          · have r0 := HR1.out.in_cell hxt
            obtain ⟨gr, cr, r1, hcr, hcr2, hrow⟩ := HR1.out.adj_cell hlt
            have r2 := hrow x hxt
            clear hrow
            have hne := HI.out.ne
            cases h1 : s.inn x
            · rw [h1] at r0
              go_wp2_with fail
              go_roundw
              case rel => exact ⟨x + 1, by go_num, by omega, by omega, lv, ev, nl, ne, ls, es, HI.out.mono (Nat.le_refl _) (by omega)⟩
              case measure => simp [intOf]; omega
            · rw [h1] at r0
              cases h2 : s.adj k x
              · rw [h2] at r2
                go_wp2_with fail
                go_roundw
                case rel => exact ⟨x + 1, by go_num, by omega, by omega, lv, ev, nl, ne, ls, es, HI.out.mono (Nat.le_refl _) (by omega)⟩
                case measure => simp [intOf]; omega
              · rw [h2] at r2
                clear h1 h2
                go_wp2_with ((at_builtin; refine wpList_append_lies _ rfl _ _ 22 rfl w.heap.size 59 i1 (Value.agg #[Value.int .i64 0, Value.int .i64 0]) 2 16 Try.underlying22 hj hy0 hy1 hy2 rfl (by decide) ev ne es rfl (HI.out.edges.alloc _) ⟨wr.heap.size, 0, none⟩ 1 1 [Value.int .i64 (k : Int), Value.int .i64 (x : Int)] rfl rfl (World.news_of_block (cs := #[Value.int .i64 (k : Int), Value.int .i64 (x : Int)]) (t := 59) (fr := (0, 0)) (heap_alloc_new wr _)) (by simp [Value.oneCell']) (by omega) (by unfold maxLen; omega) (by omega) (by simp; omega) _ rfl ?_; intro g3 cap3 w3 hown3 hgrow hat hlt3; have hk3 := heap_keep hgrow (below_alloc _ _) HI.out.ob (own_block_ne HI.out.edges HI.out.ob (by decide)); obtain ⟨s0, s1, s2, sf0, sf1, sf2⟩ := cells3 hk3; have HI3 := Lib.hid (HI.out.edges_next hgrow hown3); clear hown3 hgrow hat hlt3 hk3))
                go_roundw
                case rel => exact ⟨x + 1, by go_num, by omega, by omega, _, _, _, _, _, _, HI3.out.mono (Nat.le_refl _) (by omega)⟩
                case measure => simp [intOf]; omega
          · go_wp2_with fail
            go_roundw
            case rel => exact ⟨k + 1, by go_num, by omega, _, _, _, _, _, _, HI.out.mono (Nat.le_refl _) (by omega)⟩
            case measure => simp [intOf]; omega
    · obtain ⟨Al, cl, rfl, _⟩ := Sl.of_own HI.out.left
      obtain ⟨Ae, ce, rfl, _⟩ := Sl.of_own HI.out.edges
      obtain ⟨b0, b1, b2, bf0, bf1, bf2⟩ := cells3 HI.out.rb
      have hrb := (Array.getElem?_eq_some_iff.1 HI.out.rb).1
      obtain ⟨x1, xf1, y2, yf2, z0, z1, z2⟩ := three_sets HI.out.rb (.slice A n c) (.slice Al nl cl) (.slice Ae ne ce)
      go_wp2_with fail
      refine bodyPost_ret (v := .agg #[.slice A n c, (.slice Al nl cl), (.slice Ae ne ce)]) (by simp [results, Try.results111, go_sem, z0, z1, z2]) rfl ?_
      refine ⟨_, _, _, _, _, _, rfl, ?_⟩
      exact ((HI.out.low.setCell (by simp) _).setCell (by simp) _).setCell (by simp) _
end Go.Proofs.Ytcbojlidfabgeaa
