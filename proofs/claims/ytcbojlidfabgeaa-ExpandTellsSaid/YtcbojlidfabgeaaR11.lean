/- The reference's find: the path between two ends, in a list of paths. Conditions: no path is empty. -/
import Derived.Test.YtcbojlidfabgeaaR3b
import Derived.Test.YtcbojlidfabgeaaB3
namespace Go.Proofs.Ytcbojlidfabgeaa
open Go.RowKit
set_option linter.unusedVariables false
set_option linter.unusedSimpArgs false

def endsAt (p : List Int) (a b : Int) : Bool := (p.head?.getD 0 == a) && (p.getLast?.getD 0 == b)
def findS : List (List Int) → Int → Int → List Int
  | [], _, _ => []
  | p :: l, a, b => if endsAt p a b then p else if endsAt p b a then p.reverse else findS l a b
theorem findS_drop {xss : List (List Int)} {k : Nat} {p : List Int} (h : xss[k]? = some p) (a b : Int) : findS (xss.drop k) a b = if endsAt p a b then p else if endsAt p b a then p.reverse else findS (xss.drop (k + 1)) a b := by
  obtain ⟨h1, h2⟩ := List.getElem?_eq_some_iff.1 h
  rw [List.drop_eq_getElem_cons h1, h2]; rfl
theorem ends_of {p : List Int} (hp : p ≠ []) : ∃ x y, p[0]? = some x ∧ p[p.length - 1]? = some y ∧ ∀ a b, endsAt p a b = (x == a && y == b) := by
  cases p with
  | nil => exact absurd rfl hp
  | cons x l =>
    refine ⟨x, (x :: l).getLast (by simp), rfl, ?_, ?_⟩
    · rw [← List.getLast?_eq_getElem?, List.getLast?_eq_some_getLast]
    · intro a b; simp [endsAt, List.getLast?_eq_some_getLast]

set_option maxHeartbeats 3200000 in
set_option maxRecDepth 100000 in
theorem find_any (w : World) (A : Option Addr) (c : Nat) (vs : List Value) (xss : List (List Int)) (a b : Int) (h : Sl w A xss.length c 1 vs) (hr : RowsIn w vs xss) (hne : ∀ p ∈ xss, p ≠ [] ∧ p.length ≤ 2147483648) :
    Calls Try.prog 49 #[.slice A xss.length c, .int .i64 a, .int .i64 b] w fun e w' => ∃ v, e = .returned v ∧ w'.ownsRow w.heap.size 3 1 v (findS xss a b).length (ints (findS xss a b)) ∧ Below w.heap.size w w' := by
  have hm := h.nm
  have H := Lib.hid h
  have HR := Lib.hid hr
  have HNE := Lib.hid hne
  clear h hr hne
  obtain ⟨i0, hi, hz0, hz1, hz2⟩ := info_parts info3
  go_enter Try.func49, Try.ntmps49
  go_wp2_with fail
  go_loop [7] (fun i => ∃ k : Nat, i = .int .i64 k ∧ k ≤ xss.length ∧ findS xss a b = findS (xss.drop k) a b) (fun i => xss.length - (intOf i).toNat)
  case atStart => exact ⟨0, rfl, Nat.zero_le _, rfl⟩
  case round =>
    obtain ⟨k, rfl, hk, heq⟩ := hrel
    have HE := Lib.hid heq
    clear heq
    by_cases hlt : k < xss.length
    · obtain ⟨bo, off, hA, hc⟩ := H.out.at' (by omega)
      subst hA
      obtain ⟨p, hp⟩ : ∃ p, xss[k]? = some p := ⟨_, List.getElem?_eq_getElem hlt⟩
      obtain ⟨Ap, cp, hvp, hsp⟩ := HR.out.get hp
      have d0 := hc k _ hvp
      have hpn := HNE.out p (List.mem_iff_getElem?.2 ⟨k, hp⟩)
      obtain ⟨x, y, hx, hy, hends⟩ := ends_of hpn.1
      have hpl : 0 < p.length := List.length_pos_iff.2 hpn.1
      have hpm := hpn.2
      obtain ⟨bp, op, hAp, hcp⟩ := hsp.at' hpl
      subst hAp
      have e0 := hcp 0 _ (ints_get hx)
      have e1 := hcp (p.length - 1) _ (ints_get hy)
      have hf := findS_drop hp a b
      rw [hends, hends] at hf
      have HF := Lib.hid (HE.out.trans hf)
      have HC := Lib.hid hcp
      have HSP := Lib.hid hsp
      have e2 : ((p.length : Int) - 1).toNat = p.length - 1 := by omega
      clear hf hends hcp hc hvp hp hpn hsp hx hy HE
      simp only [Nat.add_zero] at e0
      by_cases hA : (x == a && y == b) = true
      · have b1 : (x == a) = true := by simp at hA; simp [hA.1]
        have b2 : (y == b) = true := by simp at hA; simp [hA.2]
        rw [b1, b2] at HF
        have HF := Lib.hid (show findS xss a b = p from HF.out)
        clear hA
        have hcc : ∀ (jj : Nat) (u : Value), (ints p)[jj]? = some u → (w.alloc (Obj.cells #[] 3)).cell? ((⟨bp, op, none⟩ : Addr).add jj) = some u := fun jj u hu => by
          rw [addr_add]; exact cell_keep (below_alloc w _) (HC.out jj u hu)
        have HCC := Lib.hid hcc
        clear hcc
        go_wp2_with ((at_builtin; refine wpList_append_lies _ rfl _ _ 30 rfl w.heap.size 3 i0 (Value.int .i64 0) 1 8 Try.underlying30 hi hz0 hz1 hz2 rfl (by decide) (Value.slice (some ⟨w.heap.size, 0, none⟩) 0 0) 0 [] rfl (own_mk (cur := []) (heap_alloc_new w _) (Nat.le_refl _) (Nat.le_refl _) (by unfold maxLen; omega) rfl rfl) ⟨bp, op, none⟩ p.length cp (ints p) rfl (by simp) HCC.out (ints_oneCell _ _) (by omega) (by unfold maxLen; omega) (by omega) (by simp) _ rfl ?_; intro g2 cap2 w1 hown1 hgrow hat hlt2; have HO1 := Lib.hid hown1; have HGR := Lib.hid hgrow; clear hown1 hgrow hat hlt2))
        go_ret
        refine ⟨_, rfl, ?_, ?_⟩
        · have := HO1.out
          rw [HF.out]
          simpa using this
        · exact below_keep (Below.refl _ _) (Nat.le_refl _) HGR.out (below_alloc _ _) (by intro r hr; simp [Value.ownBlock] at hr; omega)
      · have hA' : (x == a && y == b) = false := by simpa using hA
        rw [hA'] at HF
        by_cases hB : (x == b && y == a) = true
        · have b3 : (x == b) = true := by simp at hB; simp [hB.1]
          have b4 : (y == a) = true := by simp at hB; simp [hB.2]
          have HF := Lib.hid (show findS xss a b = p.reverse by rw [HF.out, hB]; rfl)
          have hcases : (x == a) = false ∨ ((x == a) = true ∧ (y == b) = false) := by
            cases h1 : (x == a)
            · exact .inl rfl
            · rw [h1] at hA'; exact .inr ⟨rfl, by simpa using hA'⟩
          clear hA hA' hB
          rcases hcases with b1 | ⟨b1, b2⟩
          · go_wp2_with fail
            go_loopw [9, 10] (fun v i wr => ∃ j : Nat, i = .int .i64 ((j : Int) - 1) ∧ j ≤ p.length ∧ Hid (wr.ownsRow w.heap.size 3 1 v (p.length - j) (ints (p.drop j).reverse)) ∧ Hid (Below w.heap.size w wr)) (fun _ i _ => (intOf i + 1).toNat)
            case atStart => exact ⟨p.length, rfl, Nat.le_refl _, by rw [List.drop_length, Nat.sub_self]; exact own_mk (cur := []) (heap_alloc_new w _) (Nat.le_refl _) (Nat.le_refl _) (by unfold maxLen; omega) rfl rfl, below_alloc _ _⟩
            case round =>
              obtain ⟨j, rfl, hj, HO, HB⟩ := hrel
              have hwz := HB.out.size
              cases j with
              | zero =>
                simp only [show ((0 : Nat) : Int) - 1 = -1 from rfl]
                go_wp2
                go_ret
                refine ⟨_, rfl, ?_, HB.out⟩
                have := HO.out
                rw [HF.out]
                simpa using this
              | succ j =>
                simp only [show ((j + 1 : Nat) : Int) - 1 = (j : Int) from by omega]
                obtain ⟨z, hz⟩ : ∃ z, p[j]? = some z := ⟨_, List.getElem?_eq_getElem (by omega)⟩
                have f0 := cell_keep HB.out (HC.out j _ (ints_get hz))
                have HZ := Lib.hid (show (p.drop j).reverse = (p.drop (j + 1)).reverse ++ [z] by
                  obtain ⟨h1, h2⟩ := List.getElem?_eq_some_iff.1 hz
                  rw [List.drop_eq_getElem_cons h1, h2, List.reverse_cons])
                clear hz
                go_wp2_with ((at_builtin; refine wpList_append_lies _ rfl _ _ 30 rfl w.heap.size 3 i0 (Value.int .i64 0) 1 8 Try.underlying30 hi hz0 hz1 hz2 rfl (by decide) _ (p.length - (j + 1)) (ints (p.drop (j + 1)).reverse) rfl (HO.out.alloc _) ⟨wr.heap.size, 0, none⟩ 1 1 [Value.int .i64 z] rfl rfl (World.news_of_block (cs := #[Value.int .i64 z]) (t := 3) (fr := (0, 0)) (heap_alloc_new wr _)) (by simp [Value.oneCell']) (by omega) (by unfold maxLen; omega) (by omega) (by simp; omega) _ rfl ?_; intro g2 cap2 w1 hown1 hgrow hat hlt2; have HO1 := Lib.hid hown1; have HGR := Lib.hid hgrow; clear hown1 hgrow hat hlt2))
                go_roundw
                case rel =>
                  refine ⟨j, by go_num, by omega, ?_, ?_⟩
                  · have := HO1.out
                    rw [HZ.out, ints_append]
                    rw [show p.length - j = p.length - (j + 1) + 1 by omega]
                    exact this
                  · exact below_keep HB.out hwz HGR.out (below_alloc _ _) (fun r hr => (HO.out.lt r hr).1)
                case measure => simp [intOf]
          · go_wp2_with fail
            go_loopw [9, 10] (fun v i wr => ∃ j : Nat, i = .int .i64 ((j : Int) - 1) ∧ j ≤ p.length ∧ Hid (wr.ownsRow w.heap.size 3 1 v (p.length - j) (ints (p.drop j).reverse)) ∧ Hid (Below w.heap.size w wr)) (fun _ i _ => (intOf i + 1).toNat)
            case atStart => exact ⟨p.length, rfl, Nat.le_refl _, by rw [List.drop_length, Nat.sub_self]; exact own_mk (cur := []) (heap_alloc_new w _) (Nat.le_refl _) (Nat.le_refl _) (by unfold maxLen; omega) rfl rfl, below_alloc _ _⟩
            case round =>
              obtain ⟨j, rfl, hj, HO, HB⟩ := hrel
              have hwz := HB.out.size
              cases j with
              | zero =>
                simp only [show ((0 : Nat) : Int) - 1 = -1 from rfl]
                go_wp2
                go_ret
                refine ⟨_, rfl, ?_, HB.out⟩
                have := HO.out
                rw [HF.out]
                simpa using this
              | succ j =>
                simp only [show ((j + 1 : Nat) : Int) - 1 = (j : Int) from by omega]
                obtain ⟨z, hz⟩ : ∃ z, p[j]? = some z := ⟨_, List.getElem?_eq_getElem (by omega)⟩
                have f0 := cell_keep HB.out (HC.out j _ (ints_get hz))
                have HZ := Lib.hid (show (p.drop j).reverse = (p.drop (j + 1)).reverse ++ [z] by
                  obtain ⟨h1, h2⟩ := List.getElem?_eq_some_iff.1 hz
                  rw [List.drop_eq_getElem_cons h1, h2, List.reverse_cons])
                clear hz
                go_wp2_with ((at_builtin; refine wpList_append_lies _ rfl _ _ 30 rfl w.heap.size 3 i0 (Value.int .i64 0) 1 8 Try.underlying30 hi hz0 hz1 hz2 rfl (by decide) _ (p.length - (j + 1)) (ints (p.drop (j + 1)).reverse) rfl (HO.out.alloc _) ⟨wr.heap.size, 0, none⟩ 1 1 [Value.int .i64 z] rfl rfl (World.news_of_block (cs := #[Value.int .i64 z]) (t := 3) (fr := (0, 0)) (heap_alloc_new wr _)) (by simp [Value.oneCell']) (by omega) (by unfold maxLen; omega) (by omega) (by simp; omega) _ rfl ?_; intro g2 cap2 w1 hown1 hgrow hat hlt2; have HO1 := Lib.hid hown1; have HGR := Lib.hid hgrow; clear hown1 hgrow hat hlt2))
                go_roundw
                case rel =>
                  refine ⟨j, by go_num, by omega, ?_, ?_⟩
                  · have := HO1.out
                    rw [HZ.out, ints_append]
                    rw [show p.length - j = p.length - (j + 1) + 1 by omega]
                    exact this
                  · exact below_keep HB.out hwz HGR.out (below_alloc _ _) (fun r hr => (HO.out.lt r hr).1)
                case measure => simp [intOf]
        · have hB' : (x == b && y == a) = false := by simpa using hB
          have HF := Lib.hid (show findS xss a b = findS (xss.drop (k + 1)) a b by rw [HF.out, hB']; rfl)
          have hcases : ((x == a) = false ∨ ((x == a) = true ∧ (y == b) = false)) ∧ ((x == b) = false ∨ ((x == b) = true ∧ (y == a) = false)) := by
            constructor
            · cases h1 : (x == a)
              · exact .inl rfl
              · rw [h1] at hA'; exact .inr ⟨rfl, by simpa using hA'⟩
            · cases h1 : (x == b)
              · exact .inl rfl
              · rw [h1] at hB'; exact .inr ⟨rfl, by simpa using hB'⟩
          clear hA hA' hB hB'
          rcases hcases with ⟨b1 | ⟨b1, b2⟩, b3 | ⟨b3, b4⟩⟩
          all_goals
            go_wp2_with fail
            go_round
            case rel => exact ⟨k + 1, by go_num, by omega, HF.out⟩
            case measure => simp [intOf]; omega
    · go_wp2
      go_ret
      have he := HE.out
      rw [List.drop_eq_nil_of_le (by omega)] at he
      rw [he]
      exact ⟨_, rfl, World.ownsRow_nil _ _ _ _, Below.refl _ _⟩
end Go.Proofs.Ytcbojlidfabgeaa
