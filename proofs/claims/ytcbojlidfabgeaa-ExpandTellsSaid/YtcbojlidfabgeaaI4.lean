/- The closure 'inner': what stands between the ends of an added edge. Conditions: steps of a right graph that can all be done, not too many. -/
import Derived.Test.YtcbojlidfabgeaaI3
namespace Go.Proofs.Ytcbojlidfabgeaa
open Go.RowKit Go.WideMaps
set_option linter.unusedVariables false
set_option linter.unusedSimpArgs false

/-- The closure's captured variables: the map of who stands for an edge, and itself. -/
structure ByP (w : World) (mb ib M n : Nat) (R : List Stp) : Prop where
  m : w.cell? ⟨mb, 0, none⟩ = some (.map (some M))
  i : w.cell? ⟨ib, 0, none⟩ = some (.func (.func 85) #[] #[.pointer (some ⟨mb, 0, none⟩), .pointer (some ⟨ib, 0, none⟩)])
  own : w.ownsMap Try.prog 59 (plainElem Try.prog 3) M n (mapR R)
theorem ByP.below {w w' : World} {mb ib M n : Nat} {R : List Stp} (h : ByP w mb ib M n R) (hb : Below w.heap.size w w') : ByP w' mb ib M n R :=
  ⟨cell_keep hb h.m, cell_keep hb h.i, h.own.kept (grownBy_of_below hb none) (by simp)⟩
theorem zeroE3 (w : World) : (zeroValue 3).run Try.prog w = .ok (.int .i64 0) w := by kernel_rfl
theorem keep_blk {w w' : World} {b : Nat} {o : Obj} (hb : Below w.heap.size w w') (h : w.heap[b]? = some o) : w'.heap[b]? = some o := (hb.block b (Array.getElem?_eq_some_iff.1 h).1).trans h
theorem newcell {X w1 : World} {o : Obj} (hb : Below (X.alloc o).heap.size (X.alloc o) w1) : w1.heap[X.heap.size]? = some o := keep_blk hb (heap_alloc_new X o)
theorem newcell_d {X w1 : World} {o : Obj} (hb : Below (X.alloc o).drew.heap.size (X.alloc o).drew w1) : w1.heap[X.heap.size]? = some o := keep_blk hb (drew_some (heap_alloc_new X o))
theorem drewN_some' {w : World} {k : Nat} {x : Obj} (q : Nat) (h : w.heap[k]? = some x) : (w.drewN q).heap[k]? = some x := h
theorem newcell_n {X w1 : World} {o : Obj} {q : Nat} (hb : Below ((X.alloc o).drewN q).heap.size ((X.alloc o).drewN q) w1) : w1.heap[X.heap.size]? = some o := keep_blk hb (drewN_some' q (heap_alloc_new X o))
theorem alloc_two (X : World) (o p : Obj) : ((X.alloc o).alloc p).heap[X.heap.size]? = some o := keep_blk (below_alloc _ _) (heap_alloc_new X o)
theorem alloc_two' (X : World) (o p : Obj) : ((X.alloc o).alloc p).heap[X.heap.size + 1]? = some p := by
  have := heap_alloc_new (X.alloc o) p
  rwa [World.size_alloc] at this
theorem row_one {w : World} {b : Nat} {x : Int} (h : w.heap[b]? = some (.cells #[.int .i64 x] 3 (0, 0))) : RowT w (.slice (some ⟨b, 0, none⟩) 1 1) [x] :=
  RowT.of_own (base := 0) (n := 1) (own_mk (cur := [.int .i64 x]) h (Nat.zero_le _) (Nat.le_refl _) (by unfold maxLen; omega) rfl rfl)
theorem sl3 {w : World} {g : Nat} {x y z : Value} (h : w.heap[g]? = some (.cells #[x, y, z] 30 (0, 0))) : Sl w (some ⟨g, 0, none⟩) 3 3 1 [x, y, z] :=
  Sl.of_own' (own_mk (base := 0) (cur := [x, y, z]) h (Nat.zero_le _) (Nat.le_refl _) (by unfold maxLen; omega) rfl rfl)
theorem rows3 {w : World} {x y z : Value} {a b c : List Int} (h1 : RowT w x a) (h2 : RowT w y b) (h3 : RowT w z c) : RowsIn w [x, y, z] [a, b, c] := by
  refine ⟨rfl, fun i v xs hv hx => ?_⟩
  match i with
  | 0 => simp at hv hx; subst hv; subst hx; exact h1
  | 1 => simp at hv hx; subst hv; subst hx; exact h2
  | 2 => simp at hv hx; subst hv; subst hx; exact h3
  | n + 3 => simp at hv
theorem Concat3 (w : World) (g : Nat) (x y z : Value) (a b c : List Int) (h : w.heap[g]? = some (.cells #[x, y, z] 30 (0, 0))) (h1 : RowT w x a) (h2 : RowT w y b) (h3 : RowT w z c) (hs : a.length + b.length + c.length ≤ 8589934592) :
    Calls Try.prog 86 #[.slice (some ⟨g, 0, none⟩) 3 3] w fun e w' => (∃ A' c', e = .returned (.slice A' (a ++ (b ++ c)).length c') ∧ w'.ownsRow w.heap.size 3 1 (.slice A' (a ++ (b ++ c)).length c') (a ++ (b ++ c)).length (ints (a ++ (b ++ c)))) ∧ Below w.heap.size w w' := by
  have := Concat_any w (some ⟨g, 0, none⟩) 3 [x, y, z] [a, b, c] (sl3 h) (rows3 h1 h2 h3) (by simp [sumL]; omega)
  simpa using this
theorem addedN_suf {es : List (Int × Int)} {R r : List Stp} {a b : Int} (h : Suf R r a b) : addedN r ≤ addedN R := by
  obtain ⟨q, rfl, _⟩ := h.app
  simp [addedN, List.countP_append]
theorem suf_mem {R r : List Stp} {a b : Int} (h : Suf R r a b) {t : Stp} (ht : t ∈ r) : t ∈ R := by
  obtain ⟨q, rfl, _⟩ := h.app
  simp [ht]
theorem innR_small {r : List Stp} (h : addedN r ≤ 28) (a b : Int) : (innR r a b).length ≤ 268435456 := by
  have h1 := innR_len r a b
  have h2 : 2 ^ addedN r ≤ 2 ^ 28 := Nat.pow_le_pow_right (by omega) h
  omega
theorem RowT.nil (w : World) : RowT w (.slice none 0 0) [] := ⟨none, 0, rfl, ⟨rfl, Nat.le_refl _, by omega, .inl rfl⟩, fun g o h => by cases h⟩
def InnP (w : World) (xs : List Int) (e : Ending) (w' : World) : Prop := (∃ A c, e = .returned (.slice A xs.length c) ∧ RowT w' (.slice A xs.length c) xs) ∧ Below w.heap.size w w'
set_option maxHeartbeats 3200000 in
set_option maxRecDepth 100000 in
theorem inner_none (es : List (Int × Int)) (R : List Stp) (hg : GoodR es R) (hst : ∀ t ∈ R, StI t) (mb ib M n : Nat) (a b : Int) (ha : InI a) (hb : InI b) (hno : (R.find? fun t => pairB t a b) = none) (w : World) (hw : ByP w mb ib M n R) :
    Calls Try.prog 85 #[.int .i64 a, .int .i64 b, .pointer (some ⟨mb, 0, none⟩), .pointer (some ⟨ib, 0, none⟩)] w (InnP w []) := by
  have hmn : InI (min a b) := by unfold InI at *; omega
  have hmx : InI (max a b) := by unfold InI at *; omega
  have hl := lookR_min R hst a b
  rw [hno] at hl
  obtain ⟨hhas, hat0⟩ := mapR_look R hst hmn hmx
  rw [hl] at hhas hat0
  have HHAS := Lib.hid hhas
  have HK := Lib.hid (keyOf_edge hmn hmx)
  have HW := Lib.hid hw
  have c0 := hw.m
  clear hhas hat0 hl hw hno
  go_enter Try.func85, Try.ntmps85
  go_wp2_with ((at_lookup; refine wpList_lookup_own_ok_int _ rfl _ _ 133 rfl 59 3 .i64 keyed59 Try.underlying133 Try.underlying3 (zeroE3 _) M n (mapR R) rfl HW.out.own _ (ek (min a b) (max a b)) rfl HK.out ?_; intro c hat hwc; rw [HHAS.out]; clear hat hwc))
  go_ret
  exact ⟨⟨none, 0, rfl, RowT.nil _⟩, Below.refl _ _⟩
set_option maxHeartbeats 3200000 in
set_option maxRecDepth 100000 in
theorem inner_one (es : List (Int × Int)) (R : List Stp) (hg : GoodR es R) (hst : ∀ t ∈ R, StI t) (hN : addedN R ≤ 28) (mb ib M n : Nat) (t : Stp) (r : List Stp) (a b : Int) (ha : InI a) (hb : InI b) (hsuf : Suf R (t :: r) a b) (hp : pairB t a b = true)
    (ih1 : ∀ w, ByP w mb ib M n R → Calls Try.prog 85 #[.int .i64 a, .int .i64 t.v, .pointer (some ⟨mb, 0, none⟩), .pointer (some ⟨ib, 0, none⟩)] w (InnP w (innR r a t.v)))
    (ih2 : ∀ w, ByP w mb ib M n R → Calls Try.prog 85 #[.int .i64 t.v, .int .i64 b, .pointer (some ⟨mb, 0, none⟩), .pointer (some ⟨ib, 0, none⟩)] w (InnP w (innR r t.v b)))
    (w : World) (hw : ByP w mb ib M n R) :
    Calls Try.prog 85 #[.int .i64 a, .int .i64 b, .pointer (some ⟨mb, 0, none⟩), .pointer (some ⟨ib, 0, none⟩)] w (InnP w (innR (t :: r) a b)) := by
  have hmn : InI (min a b) := by unfold InI at *; omega
  have hmx : InI (max a b) := by unfold InI at *; omega
  have hl := lookR_min R hst a b
  rw [hsuf.find, List.find?_cons, hp] at hl
  obtain ⟨hhas, hat0⟩ := mapR_look R hst hmn hmx
  rw [hl] at hhas hat0
  have HHAS := Lib.hid hhas
  have HAT := Lib.hid hat0
  have HK := Lib.hid (keyOf_edge hmn hmx)
  have HW := Lib.hid hw
  have c0 := hw.m
  have c1 := hw.i
  have hR := addedN_suf (es := es) hsuf
  have hr28 : addedN r ≤ 28 := by
    have : addedN (t :: r) = addedN r + if t.added then 1 else 0 := by simp [addedN, List.countP_cons]
    omega
  have hl1 := innR_small hr28 a t.v
  have hl2 := innR_small hr28 t.v b
  have HF := Lib.hid (show innR (t :: r) a b = innR r a t.v ++ ([t.v] ++ innR r t.v b) by rw [innR, hp]; simp)
  have HIH1 := Lib.hid ih1
  have HIH2 := Lib.hid ih2
  have HB := Lib.hid (Below.refl w.heap.size w)
  clear hhas hat0 hl hw ih1 ih2 hp
  go_enter Try.func85, Try.ntmps85
  go_wp2_with ((at_lookup; refine wpList_lookup_own_ok_int _ rfl _ _ 133 rfl 59 3 .i64 keyed59 Try.underlying133 Try.underlying3 (zeroE3 _) M n (mapR R) rfl HW.out.own _ (ek (min a b) (max a b)) rfl HK.out ?_; intro c hat hwc; rw [HHAS.out]; have hc : c = t.v := (by rw [HAT.out] at hat; simpa using hat.symm); subst hc; clear hat hwc))
  go_region_held3 (fun w' => w'.cell? ⟨ib, 0, none⟩ = some (.func (.func 85) #[] #[.pointer (some ⟨mb, 0, none⟩), .pointer (some ⟨ib, 0, none⟩)])) (first | assumption | go_keep) (first | (go_at_call 85; (with_reducible refine (HIH1.out _ ?_).mono ?_); (exact HW.out.below (by first | exact Below.refl _ _ | exact (Below.refl _ _).drew | exact below_drewN _ _ | exact below_alloc _ _ | exact (below_alloc _ _).drew | exact below_dn (below_alloc _ _) _ | exact below_join (below_alloc _ _) (below_alloc _ _) | exact (below_join (below_alloc _ _) (below_alloc _ _)).drew | exact below_dn (below_join (below_alloc _ _) (below_alloc _ _)) _)); rintro e w1 ⟨⟨A1, c1, rfl, hr1⟩, hb1⟩; have HR1 := Lib.hid hr1; (try replace HR2 := Lib.hid ((HR2.out.below (by first | exact Below.refl _ _ | exact (Below.refl _ _).drew | exact below_drewN _ _ | exact below_alloc _ _ | exact (below_alloc _ _).drew | exact below_dn (below_alloc _ _) _ | exact below_join (below_alloc _ _) (below_alloc _ _) | exact (below_join (below_alloc _ _) (below_alloc _ _)).drew | exact below_dn (below_join (below_alloc _ _) (below_alloc _ _)) _)).below hb1)); (first | replace HV := Lib.hid (keep_blk hb1 (keep_blk (by first | exact Below.refl _ _ | exact (Below.refl _ _).drew | exact below_drewN _ _ | exact below_alloc _ _ | exact (below_alloc _ _).drew | exact below_dn (below_alloc _ _) _ | exact below_join (below_alloc _ _) (below_alloc _ _) | exact (below_join (below_alloc _ _) (below_alloc _ _)).drew | exact below_dn (below_join (below_alloc _ _) (below_alloc _ _)) _) HV.out)) | have HV := Lib.hid (newcell hb1) | have HV := Lib.hid (newcell_d hb1) | have HV := Lib.hid (newcell_n hb1) | skip); replace HW := Lib.hid ((HW.out.below (by first | exact Below.refl _ _ | exact (Below.refl _ _).drew | exact below_drewN _ _ | exact below_alloc _ _ | exact (below_alloc _ _).drew | exact below_dn (below_alloc _ _) _ | exact below_join (below_alloc _ _) (below_alloc _ _) | exact (below_join (below_alloc _ _) (below_alloc _ _)).drew | exact below_dn (below_join (below_alloc _ _) (below_alloc _ _)) _)).below hb1); replace HB := Lib.hid (below_join (below_join HB.out (by first | exact Below.refl _ _ | exact (Below.refl _ _).drew | exact below_drewN _ _ | exact below_alloc _ _ | exact (below_alloc _ _).drew | exact below_dn (below_alloc _ _) _ | exact below_join (below_alloc _ _) (below_alloc _ _) | exact (below_join (below_alloc _ _) (below_alloc _ _)).drew | exact below_dn (below_join (below_alloc _ _) (below_alloc _ _)) _)) hb1); have k1 := HW.out.i; clear hr1 hb1) | (go_at_call 85; (with_reducible refine (HIH2.out _ ?_).mono ?_); (exact HW.out.below (by first | exact Below.refl _ _ | exact (Below.refl _ _).drew | exact below_drewN _ _ | exact below_alloc _ _ | exact (below_alloc _ _).drew | exact below_dn (below_alloc _ _) _ | exact below_join (below_alloc _ _) (below_alloc _ _) | exact (below_join (below_alloc _ _) (below_alloc _ _)).drew | exact below_dn (below_join (below_alloc _ _) (below_alloc _ _)) _)); rintro e w2 ⟨⟨A2, c2, rfl, hr2⟩, hb2⟩; have HR2 := Lib.hid hr2; (try replace HR1 := Lib.hid ((HR1.out.below (by first | exact Below.refl _ _ | exact (Below.refl _ _).drew | exact below_drewN _ _ | exact below_alloc _ _ | exact (below_alloc _ _).drew | exact below_dn (below_alloc _ _) _ | exact below_join (below_alloc _ _) (below_alloc _ _) | exact (below_join (below_alloc _ _) (below_alloc _ _)).drew | exact below_dn (below_join (below_alloc _ _) (below_alloc _ _)) _)).below hb2)); (first | replace HV := Lib.hid (keep_blk hb2 (keep_blk (by first | exact Below.refl _ _ | exact (Below.refl _ _).drew | exact below_drewN _ _ | exact below_alloc _ _ | exact (below_alloc _ _).drew | exact below_dn (below_alloc _ _) _ | exact below_join (below_alloc _ _) (below_alloc _ _) | exact (below_join (below_alloc _ _) (below_alloc _ _)).drew | exact below_dn (below_join (below_alloc _ _) (below_alloc _ _)) _) HV.out)) | have HV := Lib.hid (newcell hb2) | have HV := Lib.hid (newcell_d hb2) | have HV := Lib.hid (newcell_n hb2) | skip); replace HW := Lib.hid ((HW.out.below (by first | exact Below.refl _ _ | exact (Below.refl _ _).drew | exact below_drewN _ _ | exact below_alloc _ _ | exact (below_alloc _ _).drew | exact below_dn (below_alloc _ _) _ | exact below_join (below_alloc _ _) (below_alloc _ _) | exact (below_join (below_alloc _ _) (below_alloc _ _)).drew | exact below_dn (below_join (below_alloc _ _) (below_alloc _ _)) _)).below hb2); replace HB := Lib.hid (below_join (below_join HB.out (by first | exact Below.refl _ _ | exact (Below.refl _ _).drew | exact below_drewN _ _ | exact below_alloc _ _ | exact (below_alloc _ _).drew | exact below_dn (below_alloc _ _) _ | exact below_join (below_alloc _ _) (below_alloc _ _) | exact (below_join (below_alloc _ _) (below_alloc _ _)).drew | exact below_dn (below_join (below_alloc _ _) (below_alloc _ _)) _)) hb2); have k2 := HW.out.i; clear hr2 hb2) | (go_at_call 86; (with_reducible refine (Concat3 _ _ ?_ ?_ ?_ (innR r a t.v) [t.v] (innR r t.v b) ?_ ?_ ?_ ?_ ?_).mono ?_); rotate_left 3; (first | exact heap_alloc_new _ _ | exact alloc_two' _ _ _ | exact drew_some (heap_alloc_new _ _) | exact drew_some (alloc_two' _ _ _) | exact drewN_some' _ (heap_alloc_new _ _) | exact drewN_some' _ (alloc_two' _ _ _)); (exact HR1.out.below (by first | exact Below.refl _ _ | exact (Below.refl _ _).drew | exact below_drewN _ _ | exact below_alloc _ _ | exact (below_alloc _ _).drew | exact below_dn (below_alloc _ _) _ | exact below_join (below_alloc _ _) (below_alloc _ _) | exact (below_join (below_alloc _ _) (below_alloc _ _)).drew | exact below_dn (below_join (below_alloc _ _) (below_alloc _ _)) _)); (exact row_one (by first | exact keep_blk (by first | exact Below.refl _ _ | exact (Below.refl _ _).drew | exact below_drewN _ _ | exact below_alloc _ _ | exact (below_alloc _ _).drew | exact below_dn (below_alloc _ _) _ | exact below_join (below_alloc _ _) (below_alloc _ _) | exact (below_join (below_alloc _ _) (below_alloc _ _)).drew | exact below_dn (below_join (below_alloc _ _) (below_alloc _ _)) _) HV.out | exact alloc_two _ _ _ | exact drew_some (alloc_two _ _ _) | exact drewN_some' _ (alloc_two _ _ _))); (exact HR2.out.below (by first | exact Below.refl _ _ | exact (Below.refl _ _).drew | exact below_drewN _ _ | exact below_alloc _ _ | exact (below_alloc _ _).drew | exact below_dn (below_alloc _ _) _ | exact below_join (below_alloc _ _) (below_alloc _ _) | exact (below_join (below_alloc _ _) (below_alloc _ _)).drew | exact below_dn (below_join (below_alloc _ _) (below_alloc _ _)) _)); (simp; omega); rintro e w9 ⟨⟨A9, c9, rfl, hown9⟩, hb9⟩; have HO9 := Lib.hid hown9; have k9 := (HW.out.below (by first | exact Below.refl _ _ | exact (Below.refl _ _).drew | exact below_drewN _ _ | exact below_alloc _ _ | exact (below_alloc _ _).drew | exact below_dn (below_alloc _ _) _ | exact below_join (below_alloc _ _) (below_alloc _ _) | exact (below_join (below_alloc _ _) (below_alloc _ _)).drew | exact below_dn (below_join (below_alloc _ _) (below_alloc _ _)) _)).below hb9; have k8 := k9.i; have HB9 := Lib.hid (below_join (below_join HB.out (by first | exact Below.refl _ _ | exact (Below.refl _ _).drew | exact below_drewN _ _ | exact below_alloc _ _ | exact (below_alloc _ _).drew | exact below_dn (below_alloc _ _) _ | exact below_join (below_alloc _ _) (below_alloc _ _) | exact (below_join (below_alloc _ _) (below_alloc _ _)).drew | exact below_dn (below_join (below_alloc _ _) (below_alloc _ _)) _)) hb9); clear hown9 hb9 k9))
  all_goals go_wp2_with fail
  all_goals go_ret
  all_goals exact ⟨⟨A9, c9, by rw [HF.out]; simp, by rw [HF.out]; exact RowT.of_own HO9.out⟩, HB9.out⟩
theorem inner_any (es : List (Int × Int)) (R : List Stp) (hg : GoodR es R) (hst : ∀ t ∈ R, StI t) (hN : addedN R ≤ 28) (mb ib M n : Nat) : ∀ (r : List Stp) (a b : Int), InI a → InI b → Suf R r a b → ∀ w, ByP w mb ib M n R →
    Calls Try.prog 85 #[.int .i64 a, .int .i64 b, .pointer (some ⟨mb, 0, none⟩), .pointer (some ⟨ib, 0, none⟩)] w (InnP w (innR r a b)) := by
  intro r
  induction r with
  | nil =>
    intro a b ha hb hs w hw
    exact inner_none es R hg hst mb ib M n a b ha hb (by rw [hs.find]; rfl) w hw
  | cons t r ih =>
    intro a b ha hb hs w hw
    cases hp : pairB t a b
    · have : innR (t :: r) a b = innR r a b := by rw [innR, hp]; rfl
      rw [this]
      exact ih a b ha hb (hs.next hp) w hw
    · have ht := suf_mem hs (t := t) (by simp)
      obtain ⟨hadd, hc⟩ := pairB_iff.1 hp
      obtain ⟨hv, _⟩ := hst t ht hadd
      obtain ⟨q, hq, _⟩ := hs.app
      have hgt := (good_app (es := es) (q := q) (r := t :: r) (by rw [← hq]; exact hg)).2 hadd
      have hav : a ≠ t.v := by have := hgt.2.1; have := hgt.2.2.1; omega
      have hbv : b ≠ t.v := by have := hgt.2.1; have := hgt.2.2.1; omega
      exact inner_one es R hg hst hN mb ib M n t r a b ha hb hs hp (fun w hw => ih a t.v ha hv (hs.parts hg hp a hav).1 w hw) (fun w hw => ih t.v b hv hb (hs.parts hg hp b hbv).2 w hw) w hw
end Go.Proofs.Ytcbojlidfabgeaa
