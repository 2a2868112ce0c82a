/- A law for the walk: an append of any row (of none, too) to a row of the call's own. Conditions: the new length fits. -/
import Derived.Test.YtcbojlidfabgeaaR10d
import Derived.Deep.Upon
namespace Go.Proofs.Ytcbojlidfabgeaa
open Go.RowKit
set_option linter.unusedVariables false
set_option linter.unusedSimpArgs false

theorem wpList_app {P : Program} (w : World) {ops : Array Oper} {rest : List Oper} {o : Oper} {a : Act} {Q : Exit → Act → World → Prop} (hgd : o.guard = none) (s x : Operand) (t : TypeId)
    (ho : o.op = .call { callee := .builtin .append, args := #[s, x], argTypes := #[t, t] })
    (base : Nat) (e : TypeId) (i : TypeInfo) (z : Value) (size bytes : Nat) (ht : P.underlying t = some (.slice e)) (hi : P.info? e = some i) (hz : i.zero = some z)
    (hsize : i.size = size) (hby : i.bytes = bytes) (hzs : z.cells.size = size) (hsz : 0 < size)
    (v : Value) (n : Nat) (xs : List Value) (hs : a.eval s = v) (hown : w.ownsRow base e size v n xs)
    (A : Option Addr) (m c : Nat) (news : List Value) (hx : a.eval x = .slice A m c) (hsl : Sl w A m c size news) (h1 : ∀ u ∈ news, u.oneCell' = true)
    (h63 : n + m ≤ maxLen) (hbytes : (n + m) * bytes ≤ 140737488355328) (hbase : base ≤ w.heap.size)
    (h : ∀ A' cap w', w'.ownsRow base e size (.slice A' (n + m) cap) (n + m) (xs ++ news) → w.grownBy w' v.ownBlock → (∀ g, (Value.slice A' (n + m) cap).ownBlock = some g → v.ownBlock = some g ∨ w.heap.size ≤ g) → wpList P ops Q rest (a.put o.dst (.slice A' (n + m) cap)) w') : wpList P ops Q (o :: rest) a w := by
  rcases Nat.eq_zero_or_pos m with rfl | hm
  · obtain ⟨Av, cv, rfl, hv⟩ := Sl.of_own hown
    have hnil : news = [] := List.length_eq_zero_iff.1 (by have := hsl.len; simpa using this)
    subst hnil
    have hsrc : Src P i.size t (.slice A 0 c) 0 [] w := by
      cases A with
      | none => exact Src.ofNil w ht c
      | some ad => exact Src.ofSlice w ht ad 0 c [] (by simp) (by simp) (by simp)
    have hrun := run_append_nothing (P := P) w t t o.type e i ht hi Av n cv hv.cap (.slice A 0 c) hsrc
    have h' := h Av cv w (by simpa using hown) (World.grownBy.refl _ _) (fun g hg => .inl (by simpa [Value.ownBlock] using hg))
    refine wpList_plain hgd fun K hK => ?_
    unfold Oper.wp execOp
    simp only [ho, resolve, invoke, builtin, Sem.run_bind, Sem.run_pure, Result.andThen_ok, List.map_toArray, List.map_cons, List.map_nil, hs, hx, hrun]
    exact hK _ _ h'
  · obtain ⟨b, off, rfl, hc⟩ := hsl.at' hm
    refine wpList_append_lies w hgd s x t ho base e i z size bytes ht hi hz hsize hby hzs hsz v n xs hs hown ⟨b, off, none⟩ m c news hx hsl.len (fun j u hu => by rw [addr_add]; exact hc j u hu) h1 hm h63 hbytes hbase _ rfl ?_
    intro g cap w' h2 h3 h4 h5
    refine h _ _ w' h2 h3 fun g' hg' => ?_
    have : g = g' := by simpa [Value.ownBlock] using hg'
    subst this
    rcases h4 with h4 | h4
    · exact .inl h4
    · exact .inr (by omega)
end Go.Proofs.Ytcbojlidfabgeaa
