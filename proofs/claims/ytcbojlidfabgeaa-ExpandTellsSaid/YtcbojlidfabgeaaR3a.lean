/- The reference's Any and Of: a right graph out of anything. Conditions: at most 1000 vertices asked for. -/
import Derived.Test.YtcbojlidfabgeaaR3n
namespace Go.Proofs.Ytcbojlidfabgeaa
open Go.RowKit
set_option linter.unusedVariables false
set_option linter.unusedSimpArgs false
theorem i64_and65535 (n : Int) : bits .and .i64 n 65535 = n % 65536 := by
  have h127 : (BitVec.ofInt 64 65535).toNat = 2 ^ 16 - 1 := by decide
  have key : (BitVec.ofInt 64 n &&& BitVec.ofInt 64 65535).toNat = (n % ((2 ^ 64 : Nat) : Int)).toNat % 2 ^ 16 := by
    rw [BitVec.toNat_and, BitVec.toNat_ofInt, h127, Nat.and_two_pow_sub_one_eq_mod]
  show IntKind.i64.wrap ((BitVec.ofInt 64 n &&& BitVec.ofInt 64 65535).toNat : Nat) = n % 65536
  rw [key, IntKind.wrap_i64]
  omega


theorem inR_append {N : Int} {fs : List (Int × Int)} {x y : Int} (h : inR N fs) (h1 : 0 ≤ x) (h2 : x < N) (h3 : 0 ≤ y) (h4 : y < N) : inR N (fs ++ [(x, y)]) := by
  intro e he
  rcases List.mem_append.1 he with h0 | h0
  · exact h e h0
  · rw [List.mem_singleton] at h0; subst h0; exact ⟨h1, h2, h3, h4⟩

set_option maxHeartbeats 1600000 in
set_option maxRecDepth 100000 in
theorem Any_any (w : World) (n : Int) (most : Nat) (A : Option Addr) (c : Nat) (es : List (Int × Int)) (h : Sl w A es.length c 2 (edgeCells es)) (hm1 : most ≤ 1000) :
    Calls Try.prog 46 #[.int .i64 n, .slice A es.length c, .int .i64 most] w fun e w' => ∃ (v : Value) (N : Nat) (gs : List (Int × Int)), e = .returned v ∧ OwnG w' w.heap.size v N gs ∧ rightB N gs = true ∧ N ≤ most ∧ gs.length ≤ 300 ∧ Below w.heap.size w w' := by
  have hm := h.nm
  have H := Lib.hid h
  clear h
  have ha := i64_and65535
  obtain ⟨i0, hi, hz0, hz1, hz2⟩ := info_parts info59
  go_enter Try.func46, Try.ntmps46
  go_wp2_with fail
  have r0 : 0 ≤ n % 65536 % (most + 1) := Int.emod_nonneg _ (by omega)
  have r1 : n % 65536 % (most + 1) ≤ most := by have := Int.emod_lt_of_pos (n % 65536) (show 0 < (most : Int) + 1 by omega); omega
  generalize n % 65536 % (most + 1) = N at *
  obtain ⟨N, rfl⟩ : ∃ M : Nat, N = M := ⟨N.toNat, by omega⟩
  go_loopw [7, 8] (fun v i wr => ∃ (k : Nat) (fs : List (Int × Int)), i = .int .i64 k ∧ k ≤ es.length ∧ k ≤ 300 ∧ fs.length = k ∧ inR N fs ∧ wr.ownsRow (w.heap.size + 1) 59 2 v k (edgeCells fs) ∧
      Below (w.heap.size + 1) (w.alloc (.cells #[.int .i64 0, .slice none 0 0] 28)) wr) (fun _ i _ => 300 - (intOf i).toNat)
  case atStart => exact ⟨0, [], rfl, Nat.zero_le _, Nat.zero_le _, rfl, (fun e he => by cases he), World.ownsRow_nil _ _ _ _, Below.refl _ _⟩
  case round =>
    obtain ⟨k, fs, rfl, hk, hk3, hfl, hin, hown, hb⟩ := hrel
    have HIN := Lib.hid hin
    have HFL := Lib.hid hfl
    have HOWN := Lib.hid hown
    have HB := Lib.hid hb
    have hsz : w.heap.size < wr.heap.size := by have := hb.size; simp at this; omega
    clear hin hfl hown hb
    by_cases hcont : k < es.length ∧ k < 300 ∧ 0 < N
    · obtain ⟨hlt, h3, hN⟩ := hcont
      have hN : (0 : Int) < (N : Int) := by omega
      obtain ⟨b, off, hA, hc⟩ := H.out.at' (by omega)
      clear H
      subst hA
      obtain ⟨⟨x, y⟩, he⟩ : ∃ e, es[k]? = some e := ⟨_, List.getElem?_eq_getElem hlt⟩
      have HBW := Lib.hid (show Below w.heap.size w wr from (below_alloc _ _).trans (HB.out.mono (by omega)))
      have d0 := cell_keep HBW.out (hc _ _ (edgeCells_get he).1)
      have d1 := cell_keep HBW.out (hc _ _ (edgeCells_get he).2)
      have hbw := World.block_lt_of_cell? w _ (hc _ _ (edgeCells_get he).1)
      simp only at hbw
      clear hc he
      simp only [← Nat.add_assoc] at d0 d1
      have q0 : 0 ≤ x % 65536 % N := Int.emod_nonneg _ (by omega)
      have q1 : x % 65536 % N < N := Int.emod_lt_of_pos _ hN
      have q2 : 0 ≤ y % 65536 % N := Int.emod_nonneg _ (by omega)
      have q3 : y % 65536 % N < N := Int.emod_lt_of_pos _ hN
      have m0 : ¬ N = 0 := by omega
      have m1 : (x % 65536).tmod N = x % 65536 % N := Int.tmod_eq_emod_of_nonneg (by omega)
      have m2 : (y % 65536).tmod N = y % 65536 % N := Int.tmod_eq_emod_of_nonneg (by omega)
      have hbs := World.block_lt_of_cell? wr _ d0
      have hne := own_ne HOWN.out (b := b) (by omega)
      go_wp2_with fail
      go_region_held3 (fun w' => w'.cell? ⟨b, off + k * 2, none⟩ = some (.int .i64 x) ∧ w'.cell? ⟨b, off + k * 2 + 1, none⟩ = some (.int .i64 y))
        (first | go_keep | (go_split_ands; refine ⟨?_, ?_⟩ <;> (rw [hgrow.cell_far _ (by simp; omega) hne]; assumption)))
        ((refine step_append_lies _ (by rfl) _ _ _ (by rfl) (w.heap.size + 1) 59 i0 _ 2 16 Try.underlying22 hi hz0 hz1 hz2 rfl (by omega) u7 k (edgeCells fs) (by rfl) ((HOWN.out.alloc _).drew) ⟨wr.heap.size, 0, none⟩ 1 1 [.int .i64 (x % 65536 % N), .int .i64 (y % 65536 % N)] (by rfl) (by rfl) (World.news_of_block (cs := #[.int .i64 (x % 65536 % N), .int .i64 (y % 65536 % N)]) (t := 59) (fr := (0, 0)) (heap_alloc_new wr _)) (by simp [Value.oneCell']) (by omega) (by unfold maxLen; omega) (by omega) (by simp; omega) (wr.heap.size + 1) (by simp) ?_; intro gg cap w1 hown1 hgrow hat hlt'; have HO1 := Lib.hid hown1; have HGR := Lib.hid hgrow; clear hown1 hlt' hat))
      go_wp2
      go_roundw
      case rel =>
        refine ⟨k + 1, fs ++ [(x % 65536 % N, y % 65536 % N)], by go_num, by omega, by omega, by have := HFL.out; simp; omega, inR_append HIN.out q0 q1 q2 q3, ?_, ?_⟩
        · rw [edgeCells_append]; exact HO1.out
        · exact below_keep HB.out (by omega) HGR.out ((below_alloc _ _).drew) (fun j hj => by have := HOWN.out.lt j hj; omega)
      case measure => simp [intOf]; omega
    · obtain ⟨A2, c2, hv, hsl⟩ := Sl.of_own HOWN.out
      subst hv
      obtain rfl : fs.length = k := HFL.out
      have HSL := Lib.hid hsl
      have hbk : wr.heap[w.heap.size]? = some (Obj.cells #[Value.int .i64 0, Value.slice none 0 0] 28) := by
        rw [HB.out.block _ (by omega), heap_alloc_new]
      have HBK := Lib.hid hbk
      have HBW := Lib.hid (show Below w.heap.size w wr from (below_alloc _ _).trans (HB.out.mono (by omega)))
      clear hsl HFL hbk
      have hcases : ¬ fs.length < es.length ∨ (fs.length < es.length ∧ ¬ fs.length < 300) ∨ (fs.length < es.length ∧ fs.length < 300 ∧ ¬ 0 < N) := by omega
      clear hcont
      rcases hcases with h1 | ⟨h1, h2⟩ | ⟨h1, h2, h3⟩
      all_goals
        go_wp2_with ((go_at_call 43; refine (Normal_any _ N A2 c2 fs HSL.out (by omega) (by omega) HIN.out).mono ?_; rintro e w3 ⟨A3, c3, gs, rfl, hs3, hr3, hm3, hl3, hb3⟩; have HS3 := Lib.hid hs3; have HR3 := Lib.hid hr3; have HM3 := Lib.hid hm3; have HL3 := Lib.hid hl3; have hbk3 := (hb3.block _ hsz).trans HBK.out; have HB3 := Lib.hid hb3; clear hs3 hr3 hm3 hb3; obtain ⟨r2, r3, rf0, rf1⟩ := cells2 hbk3; have hsz3 := Nat.lt_of_lt_of_le hsz HB3.out.size; clear hbk3))
        refine bodyPost_ret (v := .agg #[.int .i64 N, .slice A3 gs.length c3]) (by simp [results, Try.results46, go_sem, r2, r3, hsz3]) rfl ?_
        refine ⟨_, N, gs, rfl, ⟨A3, c3, rfl, ?_⟩, HR3.out, by omega, by omega, ?_⟩
        · exact own_mono ((own_set_low (own_set_low HS3.out hsz _) hsz _).alloc _) (by omega)
        · exact (((below_join HBW.out HB3.out).setCell (by simp) _).setCell (by simp) _).alloc (by simp; omega) _
set_option maxHeartbeats 800000 in
set_option maxRecDepth 100000 in
theorem Of_any (w : World) (n : Int) (most : Nat) (A : Option Addr) (c : Nat) (es : List (Int × Int)) (h : Sl w A es.length c 2 (edgeCells es)) (hm1 : most ≤ 1000) :
    Calls Try.prog 16 #[.agg #[.int .i64 n, .slice A es.length c], .int .i64 most] w fun e w' => ∃ (v : Value) (N : Nat) (gs : List (Int × Int)), e = .returned v ∧ OwnG w' w.heap.size v N gs ∧ rightB N gs = true ∧ N ≤ most ∧ gs.length ≤ 300 ∧ Below w.heap.size w w' := by
  have HS := Lib.hid h
  clear h
  go_enter Try.func16, Try.ntmps16
  go_wp2_with fail
  have HS2 := Lib.hid ((HS.out.below (below_alloc w (Obj.cells #[.int .i64 n, .slice A es.length c] 24))).below (below_alloc _ (Obj.cells #[.int .i64 0, .slice none 0 0] 28)))
  have HB0 := Lib.hid (below_join (below_alloc w (Obj.cells #[.int .i64 n, .slice A es.length c] 24)) (below_alloc _ (Obj.cells #[.int .i64 0, .slice none 0 0] 28)))
  obtain ⟨w1, hw1⟩ : ∃ w1, (w.alloc (Obj.cells #[.int .i64 n, .slice A es.length c] 24)).alloc (Obj.cells #[.int .i64 0, .slice none 0 0] 28) = w1 := ⟨_, rfl⟩
  have hbk : w1.heap[w.heap.size + 1]? = some (Obj.cells #[.int .i64 0, .slice none 0 0] 28) := by
    rw [← hw1]; have := heap_alloc_new (w.alloc (Obj.cells #[.int .i64 n, .slice A es.length c] 24)) (Obj.cells #[.int .i64 0, .slice none 0 0] 28); rwa [World.size_alloc] at this
  rw [hw1] at HS2 HB0 ⊢
  have HBK := Lib.hid hbk
  have hsz := (Array.getElem?_eq_some_iff.1 hbk).1
  clear hw1 hbk
  refine (Any_any _ n most A c es HS2.out hm1).mono ?_
  rintro e w' ⟨v, N, gs, rfl, ⟨A3, c3, rfl, hown⟩, hr, hN, hl, hb⟩
  obtain ⟨r2, r3, rf0, rf1⟩ := cells2 ((hb.block _ hsz).trans HBK.out)
  have HO := Lib.hid hown
  have HB := Lib.hid hb
  have HR := Lib.hid hr
  clear hown hb hr
  go_wp2_with fail
  refine bodyPost_ret (v := .agg #[.int .i64 N, .slice A3 gs.length c3]) (by simp [results, Try.results16, go_sem, r2, r3]) rfl ?_
  refine ⟨_, N, gs, rfl, ⟨A3, c3, rfl, ?_⟩, HR.out, hN, hl, ?_⟩
  · exact own_mono (own_set_low (own_set_low HO.out hsz _) hsz _) (by omega)
  · exact ((below_join HB0.out HB.out).setCell (by simp) _).setCell (by simp) _
end Go.Proofs.Ytcbojlidfabgeaa
