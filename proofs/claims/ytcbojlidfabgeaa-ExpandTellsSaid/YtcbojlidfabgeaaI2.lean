/- The program's layer 10: Replay. Conditions: a right graph of at most 1000 vertices; at most 1000 steps. -/
import Derived.Test.YtcbojlidfabgeaaI1
import Derived.Test.YtcbojlidfabgeaaH4
import Derived.Laws.StructEq
namespace Go.Proofs.Ytcbojlidfabgeaa
open Go.RowKit
set_option linter.unusedVariables false
set_option linter.unusedSimpArgs false

theorem CloneStp (w : World) (As : Option Addr) (n c : Nat) (vs : List Value) (h : Sl w As n c 4 vs) (hsp : ∀ a, As = some a → a.spot = none) (h1 : ∀ u ∈ vs, u.oneCell' = true) (hn : n ≤ 1000000) :
    Calls Try.prog 56 #[.slice As n c] w fun e w' => (∃ A' n' c', e = .returned (.slice A' n' c')) ∧ Below w.heap.size w w' := by
  cases As with
  | none =>
    refine (AnyE.slices_Clone_nil Try.laysSlE041_f56 n c w).mono ?_
    rintro e w' ⟨rfl, rfl⟩
    exact ⟨⟨_, _, _, rfl⟩, Below.refl _ _⟩
  | some a =>
    obtain ⟨b, off, sp⟩ := a
    have := hsp _ rfl
    simp only at this
    subst this
    obtain ⟨i0, hi, hz0, hz1, hz2⟩ := info_parts info57
    refine (AnyE.slices_Clone Try.laysSlE041_f56 i0 (.agg #[.int .i64 0, .int .i64 0, .int .i64 0, .bool false]) 4 32 hi hz0 hz1 hz2 rfl (by omega) Try.sizeOf57 b off n c vs w h.len (by unfold maxLen; omega) (by omega) ?_ h1).mono ?_
    · intro j u hu
      rcases h.cells with h0 | ⟨b', off', e, hc⟩
      · have : vs = [] := List.length_eq_zero_iff.1 (by rw [h.len, h0])
        rw [this] at hu; simp at hu
      · cases e; exact hc j u hu
    · rintro e w' ⟨v', rfl, hown, _, hb⟩
      obtain ⟨A', c', rfl, _⟩ := Sl.of_own hown
      exact ⟨⟨_, _, _, rfl⟩, hb⟩
open Go.RowKit in
theorem neqStp (w : World) (x y : Stp) : (binOp .neq 57 (stpV x) (stpV y)).run Try.prog w = .ok (.bool (!eqStp x y)) w := by
  have u3 := Try.underlying3
  have a3 := Try.isAgg3
  have z3 := Try.sizeOf3
  have u4 := Try.underlying4
  have a4 := Try.isAgg4
  have z4 := Try.sizeOf4
  have hS : Try.prog.underlying 57 = some (.struct (Try.prog.fieldsOf 57)) := by kernel_rfl
  have hp : Try.prog.stoodInHeld 57 = false := by kernel_rfl
  obtain ⟨xv, xa, xb, xd⟩ := x
  obtain ⟨yv, ya, yb, yd⟩ := y
  simp only [stpV]
  rw [run_neq_struct, show (10000 : Nat) = 9999 + 1 from rfl, run_equalIn_agg w 9999 57 _ _ hS hp]
  simp only [Program.fieldsOf, Try.underlying57]
  go_simp
  by_cases h1 : xv = yv <;> by_cases h2 : xa = ya <;> by_cases h3 : xb = yb <;> cases xd <;> cases yd <;> simp [h1, h2, h3, eqStp]
def logV (A1 : Option Addr) (n1 c1 : Nat) (Al : Option Addr) (nl cl : Nat) (Ae : Option Addr) (ne ce : Nat) : Value := .agg #[.slice A1 n1 c1, .slice Al nl cl, .slice Ae ne ce]
/-- What Replay hands back. -/
def LogOut (w w' : World) (N : Nat) (s : St) (v : Value) : Prop := ∃ A1 n1 c1 Al cl Ae ce, v = logV A1 n1 c1 Al (leftS s N).length cl Ae (edgesS N s N).length ce ∧ w'.ownsRow w.heap.size 3 1 (.slice Al (leftS s N).length cl) (leftS s N).length (ints (leftS s N)) ∧ w'.ownsRow w.heap.size 59 2 (.slice Ae (edgesS N s N).length ce) (edgesS N s N).length (edgeCells (edgesS N s N))
set_option maxHeartbeats 3200000 in
set_option maxRecDepth 100000 in
theorem Replay_any (w : World) (N : Nat) (A : Option Addr) (c : Nat) (es : List (Int × Int)) (As : Option Addr) (cs : Nat) (l : List Stp) (h : Sl w A es.length c 2 (edgeCells es)) (hs : Sl w As l.length cs 4 (stepCells l)) (hsp : ∀ a, As = some a → a.spot = none) (hl : l.length ≤ 1000) (hN : N ≤ 1000) (hright : rightB N es = true) :
    Calls Try.prog 25 #[.agg #[.int .i64 N, .slice A es.length c], .slice As l.length cs] w fun e w' => (∃ v, e = .returned (.tuple #[v, .bool (replayS N (beginS N es) l).2]) ∧ LogOut w w' N (replayS N (beginS N es) l).1 v) ∧ Below w.heap.size w w' := by
  have hm := h.nm
  have hsm := hs.nm
  have hsc := hs.cap
  have hscm := hs.capm
  have H := Lib.hid h
  have HSS := Lib.hid hs
  have HRT := Lib.hid hright
  have HSY := Lib.hid (SymS.start hright)
  clear h hs hright
  go_enter Try.func25, Try.ntmps25
  go_wp2_with (first | (go_at_call 51; refine (GRight_ok _ N A c es (H.out.below (below_join (below_alloc _ _) (below_alloc _ _))) hN HRT.out).mono ?_; rintro e w4 ⟨rfl, hb4⟩; have d0 : w4.cell? ⟨w.heap.size, 0, none⟩ = some (.int .i64 N) := cell_keep hb4 (by simp); have d1 : w4.cell? ⟨w.heap.size, 1, none⟩ = some (.slice A es.length c) := cell_keep hb4 (by simp); have HB4 := Lib.hid hb4; clear hb4) | (go_at_call 52; refine (begin_any _ N A c es (H.out.below (below_join (below_join (below_alloc _ _) (below_alloc _ _)) HB4.out)) hN HRT.out).mono ?_; rintro e w5 ⟨gn, cn, gg, cg, vs, he, hr5, hb5⟩; unfold restV at he; subst he; have HR5 := Lib.hid hr5; have HB5 := Lib.hid hb5; clear hr5 hb5))
  have hsz4 := HB4.out.size
  simp only [World.size_alloc] at hsz4
  have HRB5 := Lib.hid (show w5.heap[w.heap.size + 1]? = some (.cells #[.slice none 0 0, .slice none 0 0, .slice none 0 0] 50 (0, 0)) by
    rw [HB5.out.block _ (by omega), HB4.out.block _ (by simp), show w.heap.size + 1 = (w.alloc (Obj.cells #[Value.int .i64 N, .slice A es.length c] 28)).heap.size by simp]
    exact heap_alloc_new _ _)
  have HLOW5 := Lib.hid (show Below w.heap.size w w5 from below_join (below_join (below_join (below_alloc _ _) (below_alloc _ _)) HB4.out) HB5.out)
  obtain ⟨B, hB⟩ : ∃ B, w4.heap.size = B := ⟨_, rfl⟩
  rw [hB] at HR5 HB5 hsz4
  have hB5 : B ≤ w5.heap.size := hB ▸ HB5.out.size
  clear HB4 HB5 d0 d1 hB H HRT
  go_loopw [17] (fun i wr => ∃ (k : Nat) (s : St) (vs' : List Value), i = .int .i64 k ∧ k ≤ l.length ∧ Hid (RestP wr B N s gn cn gg cg vs') ∧ Hid (SymS s) ∧ Hid (replayS N (beginS N es) l = replayS N s (l.drop k)) ∧ Hid (wr.heap[w5.heap.size]? = some (.cells #[.slice (some ⟨gn, 0, none⟩) N cn, .slice (some ⟨gg, 0, none⟩) N cg] 101 (0, 0))) ∧ Hid (wr.heap[w.heap.size + 1]? = some (.cells #[.slice none 0 0, .slice none 0 0, .slice none 0 0] 50 (0, 0))) ∧ Hid (Below w.heap.size w wr) ∧ B ≤ wr.heap.size) (fun i _ => l.length - (intOf i).toNat)
  case atStart => exact ⟨0, beginS N es, vs, rfl, Nat.zero_le _, HR5.out.below (below_alloc _ _), HSY.out, rfl, heap_alloc_new _ _, (Below.heap_alloc _ _ _ (by omega)).trans HRB5.out, below_join HLOW5.out (below_alloc _ _), by simp; omega⟩
  case round =>
    clear HR5
    obtain ⟨k, s, vs', rfl, hk, HR, HS, HQ, HRS, HRZ, HL, hBw⟩ := hrel
    obtain ⟨b0, b1, _, _⟩ := cells2 HRS.out
    have hrsl := (Array.getElem?_eq_some_iff.1 HRS.out).1
    by_cases hlt : k < l.length
    · obtain ⟨b, off, hA, hc⟩ := HSS.out.at' (by omega)
      subst hA
      obtain ⟨t, ht⟩ : ∃ t, l[k]? = some t := ⟨_, List.getElem?_eq_getElem hlt⟩
      obtain ⟨g0, g1, g2, g3⟩ := stepCells_get ht
      have d0 := cell_keep HL.out (hc _ _ g0)
      have d1 := cell_keep HL.out (hc _ _ g1)
      have d2 := cell_keep HL.out (hc _ _ g2)
      have d3 := cell_keep HL.out (hc _ _ g3)
      simp only [← Nat.add_assoc] at d0 d1 d2 d3
      have HD := Lib.hid (show l.drop k = t :: l.drop (k + 1) from by
        obtain ⟨h1, h2⟩ := List.getElem?_eq_some_iff.1 ht
        rw [List.drop_eq_getElem_cons h1, h2])
      clear hc ht g0 g1 g2 g3
      obtain ⟨tv, ta, tb, td⟩ := t
      simp only at d0 d1 d2 d3
      go_upto_region 7 with (fail)
      obtain ⟨W, hW⟩ : ∃ W, wr.alloc (Obj.cells #[Value.int .i64 tv, Value.int .i64 ta, Value.int .i64 tb, Value.bool td] 57) = W := ⟨_, rfl⟩
      have hbW : Below wr.heap.size wr W := hW ▸ below_alloc _ _
      have e4 : W.heap[wr.heap.size]? = some (.cells #[.int .i64 tv, .int .i64 ta, .int .i64 tb, .bool td] 57 (0, 0)) := hW ▸ heap_alloc_new wr _
      rw [hW]
      have HRW := Lib.hid (HR.out.below hbW)
      have HRSW := Lib.hid ((hbW.block _ hrsl).trans HRS.out)
      have HRZW := Lib.hid ((hbW.block _ (Array.getElem?_eq_some_iff.1 HRZ.out).1).trans HRZ.out)
      have HLW := Lib.hid (below_join HL.out hbW)
      have HE := Lib.hid e4
      have hBW : B ≤ W.heap.size := Nat.le_trans hBw hbW.size
      obtain ⟨eb, heb⟩ : ∃ eb, wr.heap.size = eb := ⟨_, rfl⟩
      rw [heb] at HE e4 ⊢
      clear hW hbW heb b0 b1 d0 d1 d2 d3 hrsl HR HRS HRZ HL e4
      go_cut [34] from 22 to 34 (fun q wx => q = .bool (!(mayS N s tv && eqStp (stepS N s tv.toNat) ⟨tv, ta, tb, td⟩)) ∧ Hid (Below W.heap.size W wx))
      case first =>
        obtain ⟨b0, b1, _, _⟩ := cells2 HRSW.out
        obtain ⟨t0, t1, t2, t3⟩ := cells4 HE.out
        cases hmay : mayS N s tv
        · have HM := Lib.hid hmay
          clear hmay
          refine wp_region_held_drew (S := (fun w' => w'.cell? ⟨w5.heap.size, 0, none⟩ = some (.slice (some ⟨gn, 0, none⟩) N cn) ∧ w'.cell? ⟨w5.heap.size, 1, none⟩ = some (.slice (some ⟨gg, 0, none⟩) N cg) ∧ w'.cell? ⟨eb, 0, none⟩ = some (.int .i64 tv) ∧ w'.cell? ⟨eb, 1, none⟩ = some (.int .i64 ta) ∧ w'.cell? ⟨eb, 2, none⟩ = some (.int .i64 tb) ∧ w'.cell? ⟨eb, 3, none⟩ = some (.bool td))) (by kernel_rfl) ?_ (fun hHeld => ?_)
          · try dsimp only
            (first | (refine ⟨?_, ?_, ?_, ?_, ?_, ?_⟩ <;> first | assumption | go_keep))
          refine wpAnyH_take (i := 0) (v := ?_) rfl (by kernel_rfl) (by kernel_rfl) (by kernel_rfl) (fun _ _ _ h => h) (Or.inl ⟨by rfl, ?_⟩) (by assumption) ?_; rotate_left; (focus (intro w hSw; (try dsimp only at hSw); go_simp; (try with_reducible rfl); done)); try simp only [List.getElem_toArray, List.getElem_cons_zero, List.getElem_cons_succ, Act.put, List.setIfInBounds_toArray, List.set_cons_zero, List.set_cons_succ]
          refine wpAnyH_take (i := 1) (v := ?_) rfl (by kernel_rfl) (by kernel_rfl) (by kernel_rfl) (fun _ _ _ h => h) (Or.inl ⟨by rfl, ?_⟩) (by assumption) ?_; rotate_left; (focus (intro w hSw; (try dsimp only at hSw); go_simp; (try with_reducible rfl); done)); try simp only [List.getElem_toArray, List.getElem_cons_zero, List.getElem_cons_succ, Act.put, List.setIfInBounds_toArray, List.set_cons_zero, List.set_cons_succ]
          refine wpAnyH_take (i := 2) (v := ?_) rfl (by kernel_rfl) (by kernel_rfl) (by kernel_rfl) (fun _ _ _ h => h) (Or.inl ⟨by rfl, ?_⟩) (by assumption) ?_; rotate_left; (focus (intro w hSw; (try dsimp only at hSw); go_simp; (try with_reducible rfl); done)); try simp only [List.getElem_toArray, List.getElem_cons_zero, List.getElem_cons_succ, Act.put, List.setIfInBounds_toArray, List.set_cons_zero, List.set_cons_succ]
          refine wpAnyH_ready (rs := [3]) (by kernel_rfl) (by simp) (AllReadyH.cons rfl (fun K hK => ?_) AllReadyH.nil)
          (first | ((first | (go_at_call 53; refine (may_any _ B N s gn cn gg cg vs' tv (HRW.out.below (by first | exact Below.refl _ _ | exact (Below.refl _ _).drew | exact below_drewN _ _)) hN).mono ?_; rintro e w6 ⟨rfl, hb6⟩; rw [HM.out]; have hbW : Below W.heap.size W w6 := (by first | exact hb6 | exact below_join (Below.refl _ _).drew hb6 | exact below_join (below_drewN _ _) hb6); have k0 := cell_keep hbW b0; have k1 := cell_keep hbW b1; have k2 := cell_keep hbW t0; have k3 := cell_keep hbW t1; have k4 := cell_keep hbW t2; have k5 := cell_keep hbW t3; have HB6 := Lib.hid hbW; clear hb6 hbW)); refine hK.out _ _ ?_ (fun hHeld => ?_)) | (go_simp; (first | (go_at_call 53; refine (may_any _ B N s gn cn gg cg vs' tv (HRW.out.below (by first | exact Below.refl _ _ | exact (Below.refl _ _).drew | exact below_drewN _ _)) hN).mono ?_; rintro e w6 ⟨rfl, hb6⟩; rw [HM.out]; have hbW : Below W.heap.size W w6 := (by first | exact hb6 | exact below_join (Below.refl _ _).drew hb6 | exact below_join (below_drewN _ _) hb6); have k0 := cell_keep hbW b0; have k1 := cell_keep hbW b1; have k2 := cell_keep hbW t0; have k3 := cell_keep hbW t1; have k4 := cell_keep hbW t2; have k5 := cell_keep hbW t3; have HB6 := Lib.hid hbW; clear hb6 hbW)); refine hK.out _ _ ?_ (fun hHeld => ?_)) | (go_simp; (first | (go_at_call 53; refine (may_any _ B N s gn cn gg cg vs' tv (HRW.out.below (by first | exact Below.refl _ _ | exact (Below.refl _ _).drew | exact below_drewN _ _)) hN).mono ?_; rintro e w6 ⟨rfl, hb6⟩; rw [HM.out]; have hbW : Below W.heap.size W w6 := (by first | exact hb6 | exact below_join (Below.refl _ _).drew hb6 | exact below_join (below_drewN _ _) hb6); have k0 := cell_keep hbW b0; have k1 := cell_keep hbW b1; have k2 := cell_keep hbW t0; have k3 := cell_keep hbW t1; have k4 := cell_keep hbW t2; have k5 := cell_keep hbW t3; have HB6 := Lib.hid hbW; clear hb6 hbW)); go_wp2_with fail; refine hK.out _ _ ?_ (fun hHeld => ?_)) | (go_simp; refine hK.out _ _ ?_ (fun hHeld => ?_))); (try dsimp only); (first | (refine ⟨?_, ?_, ?_, ?_, ?_, ?_⟩ <;> first | assumption | go_keep)); clear hK K; try simp only [List.getElem_toArray, List.getElem_cons_zero, List.getElem_cons_succ, Act.put, List.setIfInBounds_toArray, List.set_cons_zero, List.set_cons_succ]
          refine wpAnyH_take (i := 4) (v := ?_) rfl (by kernel_rfl) (by kernel_rfl) (by kernel_rfl) (fun _ _ _ h => h) (Or.inl ⟨by rfl, ?_⟩) (by assumption) ?_; rotate_left; (focus (intro w hSw; (try dsimp only at hSw); go_simp; (try with_reducible rfl); done)); try simp only [List.getElem_toArray, List.getElem_cons_zero, List.getElem_cons_succ, Act.put, List.setIfInBounds_toArray, List.set_cons_zero, List.set_cons_succ]
          refine wpAnyH_take (i := 5) (v := ?_) rfl (by kernel_rfl) (by kernel_rfl) (by kernel_rfl) (fun _ _ _ h => h) (Or.inl ⟨by rfl, ?_⟩) (by assumption) ?_; rotate_left; (focus (intro w hSw; (try dsimp only at hSw); go_simp; (try with_reducible rfl); done)); try simp only [List.getElem_toArray, List.getElem_cons_zero, List.getElem_cons_succ, Act.put, List.setIfInBounds_toArray, List.set_cons_zero, List.set_cons_succ]
          refine wpAnyH_take (i := 6) (v := undef) rfl (by kernel_rfl) (by kernel_rfl) (by kernel_rfl) (fun _ _ _ h => h) (Or.inr ⟨by rfl, rfl⟩) (by assumption) ?_; try simp only [List.getElem_toArray, List.getElem_cons_zero, List.getElem_cons_succ, Act.put, List.setIfInBounds_toArray, List.set_cons_zero, List.set_cons_succ]
          refine wpAnyH_take (i := 7) (v := undef) rfl (by kernel_rfl) (by kernel_rfl) (by kernel_rfl) (fun _ _ _ h => h) (Or.inr ⟨by rfl, rfl⟩) (by assumption) ?_; try simp only [List.getElem_toArray, List.getElem_cons_zero, List.getElem_cons_succ, Act.put, List.setIfInBounds_toArray, List.set_cons_zero, List.set_cons_succ]
          refine wpAnyH_take (i := 8) (v := undef) rfl (by kernel_rfl) (by kernel_rfl) (by kernel_rfl) (fun _ _ _ h => h) (Or.inr ⟨by rfl, rfl⟩) (by assumption) ?_; try simp only [List.getElem_toArray, List.getElem_cons_zero, List.getElem_cons_succ, Act.put, List.setIfInBounds_toArray, List.set_cons_zero, List.set_cons_succ]
          refine wpAnyH_take (i := 9) (v := undef) rfl (by kernel_rfl) (by kernel_rfl) (by kernel_rfl) (fun _ _ _ h => h) (Or.inr ⟨by rfl, rfl⟩) (by assumption) ?_; try simp only [List.getElem_toArray, List.getElem_cons_zero, List.getElem_cons_succ, Act.put, List.setIfInBounds_toArray, List.set_cons_zero, List.set_cons_succ]
          refine wpAnyH_take (i := 10) (v := undef) rfl (by kernel_rfl) (by kernel_rfl) (by kernel_rfl) (fun _ _ _ h => h) (Or.inr ⟨by rfl, rfl⟩) (by assumption) ?_; try simp only [List.getElem_toArray, List.getElem_cons_zero, List.getElem_cons_succ, Act.put, List.setIfInBounds_toArray, List.set_cons_zero, List.set_cons_succ]
          refine wpAnyH_take (i := 11) (v := undef) rfl (by kernel_rfl) (by kernel_rfl) (by kernel_rfl) (fun _ _ _ h => h) (Or.inr ⟨by rfl, rfl⟩) (by assumption) ?_; try simp only [List.getElem_toArray, List.getElem_cons_zero, List.getElem_cons_succ, Act.put, List.setIfInBounds_toArray, List.set_cons_zero, List.set_cons_succ]
          refine wpAnyH_take (i := 12) (v := ?_) rfl (by kernel_rfl) (by kernel_rfl) (by kernel_rfl) (fun _ _ _ h => h) (Or.inl ⟨by rfl, ?_⟩) (by assumption) ?_; rotate_left; (focus (intro w hSw; (try dsimp only at hSw); go_simp; (try with_reducible rfl); done)); try simp only [List.getElem_toArray, List.getElem_cons_zero, List.getElem_cons_succ, Act.put, List.setIfInBounds_toArray, List.set_cons_zero, List.set_cons_succ]
          refine wpAnyH_done (by kernel_rfl) ?_ _
          all_goals go_wp2_with fail
          all_goals go_meet
          all_goals exact ⟨by rw [HM.out]; rfl, HB6.out⟩
        · obtain ⟨x, rfl, hxN, hxi, hle⟩ := mayS_iff.1 hmay
          have HM := Lib.hid hmay
          have HXI := Lib.hid hxi
          have hneq : ∀ w, (binOp .neq 57 (stpV (stepS N s x)) (.agg #[.int .i64 (x : Int), .int .i64 ta, .int .i64 tb, .bool td])).run Try.prog w = .ok (.bool (!eqStp (stepS N s x) ⟨x, ta, tb, td⟩)) w := fun w => neqStp w (stepS N s x) ⟨x, ta, tb, td⟩
          have hgrd : ∀ (a b : Operand) w, (eqGuard .neq 57 a b (stpV (stepS N s x)) (.agg #[.int .i64 (x : Int), .int .i64 ta, .int .i64 tb, .bool td])).run Try.prog w = .ok () w := fun a b w => run_eqGuard_agg w .neq 57 a b _ _ (by kernel_rfl)
          clear hmay hxi
          go_region_held3 (fun w' => w'.cell? ⟨w5.heap.size, 0, none⟩ = some (.slice (some ⟨gn, 0, none⟩) N cn) ∧ w'.cell? ⟨w5.heap.size, 1, none⟩ = some (.slice (some ⟨gg, 0, none⟩) N cg) ∧ w'.cell? ⟨eb, 0, none⟩ = some (.int .i64 (x : Int)) ∧ w'.cell? ⟨eb, 1, none⟩ = some (.int .i64 ta) ∧ w'.cell? ⟨eb, 2, none⟩ = some (.int .i64 tb) ∧ w'.cell? ⟨eb, 3, none⟩ = some (.bool td)) (first | (refine ⟨?_, ?_, ?_, ?_, ?_, ?_⟩ <;> first | assumption | go_keep)) (first | (go_at_call 53; refine (may_any _ B N s gn cn gg cg vs' (x : Int) (HRW.out.below (by first | exact Below.refl _ _ | exact (Below.refl _ _).drew | exact below_drewN _ _)) hN).mono ?_; rintro e w6 ⟨rfl, hb6⟩; rw [HM.out]; have hbW : Below W.heap.size W w6 := (by first | exact hb6 | exact below_join (Below.refl _ _).drew hb6 | exact below_join (below_drewN _ _) hb6); have k0 := cell_keep hbW b0; have k1 := cell_keep hbW b1; have k2 := cell_keep hbW t0; have k3 := cell_keep hbW t1; have k4 := cell_keep hbW t2; have k5 := cell_keep hbW t3; have HB6 := Lib.hid hbW; clear hb6 hbW) | (go_at_call 54; refine (step_any _ B N s gn cn gg cg vs' x ((HRW.out.below HB6.out).below (by first | exact Below.refl _ _ | exact (Below.refl _ _).drew | exact below_drewN _ _)) hN hxN HXI.out hle).mono ?_; rintro e w7 ⟨rfl, hb7⟩; have hbX : Below W.heap.size W w7 := below_join HB6.out (by first | exact hb7 | exact below_join (Below.refl _ _).drew hb7 | exact below_join (below_drewN _ _) hb7); have z0 := cell_keep hbX b0; have z1 := cell_keep hbX b1; have z2 := cell_keep hbX t0; have z3 := cell_keep hbX t1; have z4 := cell_keep hbX t2; have z5 := cell_keep hbX t3; have HB7 := Lib.hid hbX; clear hb7 hbX))
          go_wp2_with fail
          go_meet
          exact ⟨by rw [HM.out]; simp, HB7.out⟩

      case rest =>
        obtain ⟨rfl, HBX⟩ := hcut
        have HR0 := Lib.hid (HRW.out.below HBX.out)
        have HRS0 := Lib.hid ((HBX.out.block _ (Array.getElem?_eq_some_iff.1 HRSW.out).1).trans HRSW.out)
        have HRZ0 := Lib.hid ((HBX.out.block _ (Array.getElem?_eq_some_iff.1 HRZW.out).1).trans HRZW.out)
        have HE0 := Lib.hid ((HBX.out.block _ (Array.getElem?_eq_some_iff.1 HE.out).1).trans HE.out)
        have HL0 := Lib.hid (below_join HLW.out HBX.out)
        have hB0 : B ≤ wc.heap.size := Nat.le_trans hBW HBX.out.size
        clear HRW HRSW HRZW HE HLW HBX
        obtain ⟨b0, b1, _, _⟩ := cells2 HRS0.out
        obtain ⟨t0, t1, t2, t3⟩ := cells4 HE0.out
        have hne0 : w5.heap.size ≠ w.heap.size + 1 := by omega
        obtain ⟨W0, hW0⟩ : ∃ W0, wc = W0 := ⟨_, rfl⟩
        rw [hW0] at HR0 HRS0 HRZ0 HE0 HL0 hB0 b0 b1 t0 t1 t2 t3 ⊢
        clear hW0
        cases hok : (mayS N s tv && eqStp (stepS N s tv.toNat) ⟨tv, ta, tb, td⟩)
        · have HF := Lib.hid (show replayS N (beginS N es) l = (s, false) by rw [HQ.out, HD.out, replayS]; simp only; rw [hok]; rfl)
          have HSX := Lib.hid (show Sl W0 (some ⟨b, off, none⟩) k cs 4 (stepCells (l.take k)) from by
            rw [← stepCells_take]
            exact (HSS.out.below HL0.out).take hk)
          have hkc : (k : Int) ≤ (cs : Int) := by omega
          have hk0 : (0 : Int) ≤ (k : Int) := by omega
          clear hok
          go_wp2_with fail
          go_region_held3 (fun w' => w'.cell? ⟨w5.heap.size, 0, none⟩ = some (.slice (some ⟨gn, 0, none⟩) N cn) ∧ w'.cell? ⟨w5.heap.size, 1, none⟩ = some (.slice (some ⟨gg, 0, none⟩) N cg)) (first | (refine ⟨?_, ?_⟩ <;> first | assumption | exact cell_set_far (cell_set_far (cell_set_far (by assumption) hne0) hne0) hne0 | go_keep)) (first | (go_at_call 56; refine (CloneStp _ (some ⟨b, off, none⟩) k cs _ ((HSX.out).below (by first | exact Below.refl _ _ | exact (Below.refl _ _).drew | exact below_drewN _ _)) (fun a ha => by cases ha; rfl) (stepCells_one _) (by omega)).mono ?_; rintro e w7 ⟨⟨A7, n7, c7, rfl⟩, hb7⟩; have hbX := (show Below W0.heap.size W0 w7 from (by first | exact hb7 | exact below_join (Below.refl _ _).drew hb7 | exact below_join (below_drewN _ _) hb7)); have k0 := cell_keep hbX b0; have k1 := cell_keep hbX b1; have HB7 := Lib.hid hbX; clear hb7 hbX) | (go_at_call 55; refine (Log_any _ B N s gn cn gg cg vs' A7 n7 c7 ((HR0.out.below HB7.out).below (by first | exact Below.refl _ _ | exact (Below.refl _ _).drew | exact below_drewN _ _)) hN).mono ?_; rintro e w8 ⟨⟨Al, cl, Ae, ce, rfl, hol, hoe⟩, hb8⟩; have hbY : Below W0.heap.size W0 w8 := below_join HB7.out (by first | exact hb8 | exact below_join (Below.refl _ _).drew hb8 | exact below_join (below_drewN _ _) hb8); have j0 := cell_keep hbY b0; have j1 := cell_keep hbY b1; have HB8 := Lib.hid hbY; have hz8 := (hbY.block _ (Array.getElem?_eq_some_iff.1 HRZ0.out).1).trans HRZ0.out; have HZ8 := Lib.hid hz8; have HOL := Lib.hid (own_mono hol (Nat.le_trans HL0.out.size (by first | exact HB7.out.size | (simp; exact HB7.out.size)))); have HOE := Lib.hid (own_mono hoe (Nat.le_trans HL0.out.size (by first | exact HB7.out.size | (simp; exact HB7.out.size)))); obtain ⟨r0, r1, r2, rf0, rf1, rf2⟩ := cells3 hz8; obtain ⟨x1, xf1, y2, yf2, z0, z1, z2⟩ := three_sets hz8 (.slice A7 n7 c7) (.slice Al (leftS s N).length cl) (.slice Ae (edgesS N s N).length ce); clear hol hoe hb8 hbY hz8))
          go_wp2_with fail
          refine bodyPost_ret (v := .tuple #[logV A7 n7 c7 Al (leftS s N).length cl Ae (edgesS N s N).length ce, .bool false]) (by simp [results, Try.results25, go_sem, z0, z1, z2, logV]) rfl ?_
          have three : ∀ {b : Nat} {e : TypeId} {sz m : Nat} {v : Value} {xs : List Value}, w8.ownsRow b e sz v m xs → e ≠ 50 → (((w8.setCell ⟨w.heap.size + 1, 0, none⟩ (.slice A7 n7 c7)).setCell ⟨w.heap.size + 1, 1, none⟩ (.slice Al (leftS s N).length cl)).setCell ⟨w.heap.size + 1, 2, none⟩ (.slice Ae (edgesS N s N).length ce)).ownsRow b e sz v m xs := fun h he => own_setCell (own_setCell (own_setCell h (own_block_ne h HZ8.out he)) (own_block_ne h HZ8.out he)) (own_block_ne h HZ8.out he)
          rw [HF.out]
          exact ⟨⟨_, rfl, A7, n7, c7, Al, cl, Ae, ce, rfl, three HOL.out (by decide), three HOE.out (by decide)⟩, (((below_join HL0.out HB8.out).setCell (by simp) _).setCell (by simp) _).setCell (by simp) _⟩
        · rw [Bool.and_eq_true] at hok
          obtain ⟨x, rfl, hxN, hxi, hle⟩ := mayS_iff.1 hok.1
          have hst : stepS N s x = ⟨x, ta, tb, td⟩ := by
            have := (eqStp_iff _ _).1 hok.2
            rwa [Int.toNat_natCast] at this
          have HF := Lib.hid (show replayS N (beginS N es) l = replayS N (goS N s x) (l.drop (k + 1)) by
            rw [HQ.out, HD.out, replayS]; simp only
            rw [if_pos (by rw [Bool.and_eq_true]; exact hok), Int.toNat_natCast])
          have hdo := do_any W0 B N s gn cn gg cg vs' x HR0.out hN hxN hxi hle HS.out hB0
          rw [hst] at hdo
          have HDO := Lib.hid hdo
          have HS1 := Lib.hid (HS.out.go hle)
          clear hok hst hdo hxi
          go_wp2_with (go_at_call 57; refine (show Calls Try.prog 57 #[.agg #[.slice (some ⟨gn, 0, none⟩) N cn, .slice (some ⟨gg, 0, none⟩) N cg], .agg #[.int .i64 (x : Int), .int .i64 ta, .int .i64 tb, .bool td]] W0 _ from HDO.out).mono ?_; rintro e w9 ⟨rfl, ⟨vs9, hr9⟩, hb9, hk9⟩; have HR9 := Lib.hid hr9; have HRS9 := Lib.hid (hk9 _ _ _ HRS0.out (by decide) (by decide) (by decide)); have HRZ9 := Lib.hid (hk9 _ _ _ HRZ0.out (by decide) (by decide) (by decide)); have HL9 := Lib.hid (HL0.out.trans (hb9.mono (by omega : w.heap.size ≤ B))); have hB9 := Nat.le_trans hB0 hb9.size; clear hr9 hb9 hk9)
          go_roundw
          case rel => exact ⟨k + 1, goS N s x, vs9, by go_num, by omega, HR9.out, HS1.out, HF.out, HRS9.out, HRZ9.out, HL9.out, hB9⟩
          case measure => simp [intOf]; omega
    · obtain rfl : k = l.length := by omega
      have HF := Lib.hid (show replayS N (beginS N es) l = (s, true) by rw [HQ.out, List.drop_length]; rfl)
      have HR0 := HR
      have HRZ0 := HRZ
      have HL0 := HL
      have hne0 : w5.heap.size ≠ w.heap.size + 1 := by omega
      obtain ⟨W0, hW0⟩ : ∃ W0, wr = W0 := ⟨_, rfl⟩
      rw [hW0] at HR0 HRZ0 HL0 b0 b1 ⊢
      clear hW0 HR HRZ HL HRS
      go_wp2_with fail
      go_region_held3 (fun w' => w'.cell? ⟨w5.heap.size, 0, none⟩ = some (.slice (some ⟨gn, 0, none⟩) N cn) ∧ w'.cell? ⟨w5.heap.size, 1, none⟩ = some (.slice (some ⟨gg, 0, none⟩) N cg)) (first | (refine ⟨?_, ?_⟩ <;> first | assumption | exact cell_set_far (cell_set_far (cell_set_far (by assumption) hne0) hne0) hne0 | go_keep)) (first | (go_at_call 56; refine (CloneStp _ As l.length cs _ (((HSS.out.below HL0.out)).below (by first | exact Below.refl _ _ | exact (Below.refl _ _).drew | exact below_drewN _ _)) hsp (stepCells_one _) (by omega)).mono ?_; rintro e w7 ⟨⟨A7, n7, c7, rfl⟩, hb7⟩; have hbX := (show Below W0.heap.size W0 w7 from (by first | exact hb7 | exact below_join (Below.refl _ _).drew hb7 | exact below_join (below_drewN _ _) hb7)); have k0 := cell_keep hbX b0; have k1 := cell_keep hbX b1; have HB7 := Lib.hid hbX; clear hb7 hbX) | (go_at_call 55; refine (Log_any _ B N s gn cn gg cg vs' A7 n7 c7 ((HR0.out.below HB7.out).below (by first | exact Below.refl _ _ | exact (Below.refl _ _).drew | exact below_drewN _ _)) hN).mono ?_; rintro e w8 ⟨⟨Al, cl, Ae, ce, rfl, hol, hoe⟩, hb8⟩; have hbY : Below W0.heap.size W0 w8 := below_join HB7.out (by first | exact hb8 | exact below_join (Below.refl _ _).drew hb8 | exact below_join (below_drewN _ _) hb8); have j0 := cell_keep hbY b0; have j1 := cell_keep hbY b1; have HB8 := Lib.hid hbY; have hz8 := (hbY.block _ (Array.getElem?_eq_some_iff.1 HRZ0.out).1).trans HRZ0.out; have HZ8 := Lib.hid hz8; have HOL := Lib.hid (own_mono hol (Nat.le_trans HL0.out.size (by first | exact HB7.out.size | (simp; exact HB7.out.size)))); have HOE := Lib.hid (own_mono hoe (Nat.le_trans HL0.out.size (by first | exact HB7.out.size | (simp; exact HB7.out.size)))); obtain ⟨r0, r1, r2, rf0, rf1, rf2⟩ := cells3 hz8; obtain ⟨x1, xf1, y2, yf2, z0, z1, z2⟩ := three_sets hz8 (.slice A7 n7 c7) (.slice Al (leftS s N).length cl) (.slice Ae (edgesS N s N).length ce); clear hol hoe hb8 hbY hz8))
      go_wp2_with fail
      refine bodyPost_ret (v := .tuple #[logV A7 n7 c7 Al (leftS s N).length cl Ae (edgesS N s N).length ce, .bool true]) (by simp [results, Try.results25, go_sem, z0, z1, z2, logV]) rfl ?_
      have three : ∀ {b : Nat} {e : TypeId} {sz m : Nat} {v : Value} {xs : List Value}, w8.ownsRow b e sz v m xs → e ≠ 50 → (((w8.setCell ⟨w.heap.size + 1, 0, none⟩ (.slice A7 n7 c7)).setCell ⟨w.heap.size + 1, 1, none⟩ (.slice Al (leftS s N).length cl)).setCell ⟨w.heap.size + 1, 2, none⟩ (.slice Ae (edgesS N s N).length ce)).ownsRow b e sz v m xs := fun h he => own_setCell (own_setCell (own_setCell h (own_block_ne h HZ8.out he)) (own_block_ne h HZ8.out he)) (own_block_ne h HZ8.out he)
      rw [HF.out]
      exact ⟨⟨_, rfl, A7, n7, c7, Al, cl, Ae, ce, rfl, three HOL.out (by decide), three HOE.out (by decide)⟩, (((below_join HL0.out HB8.out).setCell (by simp) _).setCell (by simp) _).setCell (by simp) _⟩
end Go.Proofs.Ytcbojlidfabgeaa
