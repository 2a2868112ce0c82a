/- The row of ExpandTells. Conditions: none. -/
import Derived.Test.YtcbojlidfabgeaaK1
import Derived.Test.YtcbojlidfabgeaaK2
import Derived.WideKeyArgs
namespace Go.Proofs.Ytcbojlidfabgeaa
open Go.ChangeShapes Go.WideShapes Go.ChangeAt Go.RowKit
theorem Try.own : ownKnob Try.prog.godebug = none := by kernel_rfl
theorem Try.laidOut : laidOutB Try.prog = true := by kernel_rfl
set_option maxRecDepth 100000 in
theorem stays_at (t : TypeId) (hr : Try.prog.readableRec t = true) (hrow : t < Try.prog.types.size) {H : Type} {enc : TypeId × Value → H} {W W' : World} {v : Value} {d : DataW H} {p : List MemPlace} (h : DataW.Trod enc Try.prog W 0 (fun _ => true) true t v d p)
    (hl : ∀ x ∈ p, x.block < W.heap.size) (hb : Below W.heap.size W W') {sp : Nat → Bool} (hs : ∀ x ∈ p, sp x.block = true) : DataW.Trod enc Try.prog W' 0 sp true t v d p :=
  WideElems.Trod_stays Try.laidOut hr hrow h (fun x hx => hb.same (hl x hx)) hs
set_option maxRecDepth 100000 in
theorem stays24 {H : Type} {enc : TypeId × Value → H} {W W' : World} {v : Value} {d : DataW H} {p : List MemPlace} (h : DataW.Trod enc Try.prog W 0 (fun _ => true) true 24 v d p)
    (hl : ∀ x ∈ p, x.block < W.heap.size) (hb : Below W.heap.size W W') {sp : Nat → Bool} (hs : ∀ x ∈ p, sp x.block = true) : DataW.Trod enc Try.prog W' 0 sp true 24 v d p :=
  stays_at 24 (by kernel_rfl) (of_decide_eq_true (by kernel_rfl)) h hl hb hs
set_option maxRecDepth 100000 in
theorem stays25 {H : Type} {enc : TypeId × Value → H} {W W' : World} {v : Value} {d : DataW H} {p : List MemPlace} (h : DataW.Trod enc Try.prog W 0 (fun _ => true) true 25 v d p)
    (hl : ∀ x ∈ p, x.block < W.heap.size) (hb : Below W.heap.size W W') {sp : Nat → Bool} (hs : ∀ x ∈ p, sp x.block = true) : DataW.Trod enc Try.prog W' 0 sp true 25 v d p :=
  stays_at 25 (by kernel_rfl) (of_decide_eq_true (by kernel_rfl)) h hl hb hs
set_option maxRecDepth 100000 in
theorem stays26 {H : Type} {enc : TypeId × Value → H} {W W' : World} {v : Value} {d : DataW H} {p : List MemPlace} (h : DataW.Trod enc Try.prog W 0 (fun _ => true) true 26 v d p)
    (hl : ∀ x ∈ p, x.block < W.heap.size) (hb : Below W.heap.size W W') {sp : Nat → Bool} (hs : ∀ x ∈ p, sp x.block = true) : DataW.Trod enc Try.prog W' 0 sp true 26 v d p :=
  stays_at 26 (by kernel_rfl) (of_decide_eq_true (by kernel_rfl)) h hl hb hs

set_option maxRecDepth 100000 in
theorem expandTells_lifted (os : Os) (started : os.Started) (H : Type) (enc : TypeId × Value → H) :
    ReturnsInHanded {} Try.checked os 3 .any (Rows.expandTellsSpec.pre6 enc Try.prog Try.f3 Rows.expandTellsRow.domain false) (Rows.expandTellsSpec.post enc Try.prog Try.f3 false true false false) := by
  refine returnsInHanded_of_change (C := Try.checked) Try.own started (by kernel_rfl) Try.func3
    (ChangeSpec.witness6 (enc := enc) (C := Try.checked) false ⟨#[], #[.agg #[.int .i64 0, .slice none 0 0], .slice none 0 0, .agg #[.int .i64 0, .int .i64 0]], []⟩ 8 (by kernel_rfl) (by kernel_rfl) (by kernel_rfl) (by kernel_rfl)) ?_
  intro W base args ds gs before hval0 hW hcnd _
  have hval : ∀ (j : Nat) t v, Try.f3.params[j]? = some t → args[j]? = some v → Value.okWide Try.prog W .any base t v := hval0
  have hW' := hW
  obtain ⟨p, q, hA0, hV, rfl, hfz, hnd⟩ := hW
  have hA : DataW.TrodAll enc Try.prog W 0 (fun _ => true) true Try.f3.params.toList args.toList ds p := hA0
  rw [Try.params3] at hA hval
  obtain ⟨v0, v1, v2, d0, d1, d2, p0, p1, p2, rfl, rfl, rfl, h0, h1, h2⟩ := trodAll_three hA
  obtain ⟨rfl, rfl⟩ := trodVars_none hV
  obtain ⟨n, A, c, es, rfl, hs0⟩ := open_net (hval 0 24 v0 rfl rfl) h0
  obtain ⟨_, hf1⟩ := open_top Try.underlying25 (hval 1 25 v1 rfl rfl) h1
  obtain ⟨As, cs, l, rfl, hs1⟩ := open_steps hf1
  obtain ⟨a, b, rfl, ha, hb⟩ := open_ends (hval 2 26 v2 rfl rfl) h2
  clear hA0 hval0
  simp only [List.append_nil] at hW'
  have hlt := hW'.lt
  simp only [List.append_assoc] at hlt
  refine (Tells_any W n A c es As cs l a b hs0 hs1 ha hb).mono fun e W' ⟨he, hB⟩ => ?_
  subst he
  exact ⟨_, rfl, post_of_below (pa := p0 ++ (p1 ++ p2)) (pv := []) hW' (fun _ _ _ => trodAll_mk1 (shut_bool Try.underlying4 _))
    (fun sp hsp => trodAll_mk3
      (stays24 h0 (fun x hx => hlt x (by simp [hx])) hB (fun x hx => hsp x (by simp [hx])))
      (stays25 h1 (fun x hx => hlt x (by simp [hx])) hB (fun x hx => hsp x (by simp [hx])))
      (stays26 h2 (fun x hx => hlt x (by simp [hx])) hB (fun x hx => hsp x (by simp [hx]))))
    (fun _ _ => rfl) (by simp) hB (ok_one (by kernel_rfl) rfl (okWide_bool_mk Try.underlying4 _))⟩
theorem expandTells_holds : Rows.ExpandTellsSaid :=
  OpenClaim.holds_of_wide 3 Try.f3 rfl rfl rfl rfl rfl rfl rfl ⟨rfl, rfl, rfl, rfl, rfl⟩ rfl rfl rfl rfl rfl (by kernel_rfl) Try.func3 (by kernel_rfl)
    (of_decide_eq_true (by kernel_rfl)) (by unfold Func.isWrapper; first | (rw [if_pos (by decide +kernel)]; kernel_rfl) | (rw [if_neg (by decide +kernel)]; exact ⟨rfl, rfl⟩))
    (fun os started H enc _ => expandTells_lifted os started H enc)
end Go.Proofs.Ytcbojlidfabgeaa
