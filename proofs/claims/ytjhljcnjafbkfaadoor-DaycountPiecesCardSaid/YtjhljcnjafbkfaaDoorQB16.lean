import Derived.Test.YtjhljcnjafbkfaaDoorQB15
set_option linter.unusedSimpArgs false
set_option linter.unusedVariables false
set_option linter.unusedVariables false
namespace Go.Proofs.YtjhljcnjafbkfaaDoor.X
open Go.RowKit Go.Shelf
attribute [local go_sem] Oper.semAt_some
def sm (k : Nat) : S31 → List (Int × Int) → Option S31
  | s, [] => some s
  | s, x :: L => (ratio_Of.f k x.1 x.2).bind fun q => (ratio_Add.f k s q.1).bind fun u => sm k u.1 L
theorem sm_append (k : Nat) : ∀ (L L' : List (Int × Int)) (s : S31), sm k s (L ++ L') = (sm k s L).bind fun u => sm k u L'
  | [], L', s => rfl
  | x :: L, L', s => by
    show ((ratio_Of.f k x.1 x.2).bind fun q => (ratio_Add.f k s q.1).bind fun u => sm k u.1 (L ++ L')) = _
    show _ = ((ratio_Of.f k x.1 x.2).bind fun q => (ratio_Add.f k s q.1).bind fun u => sm k u.1 L).bind _
    cases ratio_Of.f k x.1 x.2 with
    | none => rfl
    | some q =>
      show ((ratio_Add.f k s q.1).bind fun u => sm k u.1 (L ++ L')) = ((ratio_Add.f k s q.1).bind fun u => sm k u.1 L).bind _
      cases ratio_Add.f k s q.1 with
      | none => rfl
      | some u => exact sm_append k L L' u.1
theorem sm_one {k : Nat} {s u : S31} {x : Int × Int} {L : List (Int × Int)} (h : sm k s (x :: L) = some u) : ∃ q v, ratio_Of.f k x.1 x.2 = some q ∧ ratio_Add.f k s q.1 = some v ∧ sm k v.1 L = some u := by
  have h' : ((ratio_Of.f k x.1 x.2).bind fun q => (ratio_Add.f k s q.1).bind fun u => sm k u.1 L) = some u := h
  obtain ⟨q, hq, h'⟩ := Option.bind_eq_some_iff.1 h'
  obtain ⟨v, hv, h'⟩ := Option.bind_eq_some_iff.1 h'
  exact ⟨q, v, hq, hv, h'⟩
theorem up_to {α : Type} {F : Nat → Option α} (hm : ∀ k, LeO (F k) (F (k + 1))) {k k' : Nat} (h : k ≤ k') {x : α} (hx : F k = some x) : F k' = some x := by
  induction h with
  | refl => exact hx
  | step _ ih => exact hm _ _ ih
theorem part_list (k0 : Nat) : ∀ (k : Nat) (f t : Int) (s u : S31), k ≤ k0 → daycount_Part.l k f t s = some u → ∃ L, YL k0 t f L ∧ sm k0 s L = some u
  | 0, f, t, s, u, _, h => by cases h
  | k + 1, f, t, s, u, hk, h => by
    rw [daycount_Part.l] at h
    by_cases hlt : f < t
    · rw [if_pos hlt] at h
      obtain ⟨p, hp, h⟩ := Option.bind_eq_some_iff.1 h
      obtain ⟨q, hq, h⟩ := Option.bind_eq_some_iff.1 h
      obtain ⟨a, ha, h⟩ := Option.bind_eq_some_iff.1 h
      obtain ⟨r, hr, h⟩ := Option.bind_eq_some_iff.1 h
      obtain ⟨v, hv, h⟩ := Option.bind_eq_some_iff.1 h
      obtain ⟨L, hL, hs⟩ := part_list k0 k _ t _ u (by omega) h
      have e1 : date_Split.f k0 f = some p := up_to (fun k => date_Split.mono k f) (by omega) hp
      have e2 : daycount_ahead.f k0 p.1 p.2.1 p.2.2.1 = some a := up_to (fun k => daycount_ahead.mono k _ _ _) (by omega) ha
      have e3 : ratio_Of.f k0 (yN f t a q) (yOf q) = some r := up_to (fun k => ratio_Of.mono k _ _) (by omega) hr
      have e4 : ratio_Add.f k0 s r.1 = some v := up_to (fun k => ratio_Add.mono k _ _) (by omega) hv
      refine ⟨_, .more hlt e1 hq e2 hL, ?_⟩
      show ((ratio_Of.f k0 (yN f t a q) (yOf q)).bind fun q => (ratio_Add.f k0 s q.1).bind fun u => sm k0 u.1 L) = _
      rw [e3]
      show ((ratio_Add.f k0 s r.1).bind fun u => sm k0 u.1 L) = _
      rw [e4]
      exact hs
    · rw [if_neg hlt] at h
      cases h
      exact ⟨[], .done hlt, rfl⟩
theorem RepP.mono2 {I I' : Nat → Nat → Prop} {w w' : World} (hI : ∀ b i, I b i → I' b i) (hc : ∀ b i v, I b i → w.cell? ⟨b, i, none⟩ = some v → w'.cell? ⟨b, i, none⟩ = some v)
    {v : Value} {x : PV} (h : RepP I w v x) : RepP I' w' v x := by
  induction h with
  | sc h => exact .sc h
  | sl f h1 h2 h3 h4 h5 h6 _ ih =>
    refine .sl f h1 h2 h3 h4 h5 (fun a ha i r j x hr hx => ?_) ih
    obtain ⟨p, q⟩ := h6 a ha i r j x hr hx
    exact ⟨hI _ _ p, hc _ _ _ p q⟩
  | ref f h1 _ ih => exact .ref f (fun j x hx => ⟨hI _ _ (h1 j x hx).1, hc _ _ _ (h1 j x hx).1 (h1 j x hx).2⟩) ih
  | fn hl _ ih => exact .fn hl ih
theorem years_in (F : Fence) (n : Nat) (h27 : F.fn 27) (hro : F.round = none) (a b : Int) (W : World) :
    CallsIn F n Tryd.prog 27 #[.int .i32 a, .int .i32 b] W fun e W' => ∃ B, e = .returned (.func (.func 46) #[] #[.pointer (some ⟨B, 0, none⟩), .pointer (some ⟨B + 1, 0, none⟩)]) ∧ W.heap.size ≤ B ∧ Boxed W' B 22 (.int .i32 a) ∧ Boxed W' (B + 1) 22 (.int .i32 b) ∧ Below W.heap.size W W' := by
  refine callsIn_of_wp Tryd.func27 rfl h27 ?_ hro
  simp only [Tryd.ntmps27, List.size_toArray, List.length_cons, List.length_nil, Nat.reduceAdd, Nat.reduceSub, Array.replicate_succ, Array.replicate_zero, List.push_toArray, List.append_toArray, List.nil_append, List.cons_append]
  gi_wp2
  go_ret
  have b2 := Boxed.new (W.alloc (.cells #[.int .i32 a] 22)) 22 (.int .i32 b)
  rw [World.size_alloc] at b2
  exact ⟨W.heap.size, rfl, Nat.le_refl _, (Boxed.new W 22 (.int .i32 a)).alloc _, b2, ((Below.refl _ W).alloc (Nat.le_refl _) _).alloc (by simp) _⟩
def PInv (I : Nat → Nat → Prop) (w : World) (k : Nat) (q : S31) (S R B : Nat) (pre : List (Int × Int)) (W : World) : Prop :=
  ∃ s I' a1 n1 c1 a2 n2 c2, sm k q pre = some s ∧ At I w I' W ∧ Rt I' W s (.slice a1 n1 c1) (.slice a2 n2 c2) ∧ Blk3 W S (.bool s.f0) (.slice a1 n1 c1) (.slice a2 n2 c2) ∧ Blk3 W R (.bool false) (.slice none 0 0) (.slice none 0 0) ∧ (∀ i, ¬ I' S i ∧ ¬ I' R i ∧ ¬ I' B i) ∧ B + 1 < W.heap.size
theorem hSt_y {B n : Nat} : ∀ X Y, StY B X Y → ∀ (j : Nat) (o : Go.Obj), n ≤ j → X.heap[j]? = some o → o.isCells = false → Y.heap[j]? = some o := by
  rintro X Y (hb | ⟨v, rfl⟩) j o _ ho hc
  · exact (hb.block j (Array.getElem?_eq_some_iff.1 ho).1).trans ho
  · exact (KeepsOthers.setCell X _ v).same j o ho hc
theorem hKb_y {n₀ B : Nat} {w4 : World} {S : Nat} (hS : n₀ ≤ S) (hB' : S + 1 ≤ B) (hB : B + 1 < w4.heap.size) (W : World) (l : Nat) (o o' : Go.Obj) (hl : w4.heap.size ≤ l) (h : W.heap[l]? = some o) (_ : o.isCells = false) (_ : o.isWalk = false) : KpY n₀ B W (W.putObj l o') :=
  ⟨belowK_b (w := w4) (by omega) W l o o' hl h ‹_› ‹_›, World.putObj_heap_other (by omega), World.putObj_heap_other (by omega)⟩
theorem pinv_step {I : Nat → Nat → Prop} {w : World} {k : Nat} {q : S31} {S R B : Nat} {pre : List (Int × Int)} {W W' : World} (h : PInv I w k q S R B pre W) (hb : Below w.heap.size W W') (hs : W.heap.size ≤ W'.heap.size)
    (hc : ∀ b i v, b ≠ B → W.cell? ⟨b, i, none⟩ = some v → W'.cell? ⟨b, i, none⟩ = some v) (hS : ∀ o, W.heap[S]? = some o → o.isCells = true → W'.heap[S]? = some o) (hR : ∀ o, W.heap[R]? = some o → o.isCells = true → W'.heap[R]? = some o) : PInv I w k q S R B pre W' := by
  obtain ⟨s, I', a1, n1, c1, a2, n2, c2, h1, hA, hr, b1, b2, hn, hB⟩ := h
  have hc' : ∀ b i v, I' b i → W.cell? ⟨b, i, none⟩ = some v → W'.cell? ⟨b, i, none⟩ = some v := fun b i v q => hc b i v fun e => (hn i).2.2 (e ▸ q)
  exact ⟨s, I', a1, n1, c1, a2, n2, c2, h1, ⟨hA.below.trans hb, hA.agree, fun b i q => Nat.lt_of_lt_of_le (hA.bound b i q) hs, fun k cs e => (hA.glob k cs e).mono2 (fun _ _ q => q) hc'⟩,
    ⟨hr.1.mono2 (fun _ _ q => q) hc', hr.2.mono2 (fun _ _ q => q) hc'⟩, hS _ b1 rfl, hR _ b2 rfl, hn, by omega⟩
theorem pinv_own {I : Nat → Nat → Prop} {w w4 : World} {k : Nat} {q : S31} {S R B : Nat} (hw : w.heap.size ≤ w4.heap.size) (hS : S < w4.heap.size) (hB : B + 1 < w4.heap.size) : OwnFrom w4.heap.size (PInv I w k q S R B) := by
  intro pre W W' row h hg hr
  have key : ∀ (b : Nat) (o : Go.Obj), W.heap[b]? = some o → o.isCells = true → W'.heap[b]? = some o := fun b o ho hc => by
    refine (hg.block b (Array.getElem?_eq_some_iff.1 ho).1 fun e => ?_).trans ho
    obtain ⟨_, o', ho', hc'⟩ := hr b e.symm
    rw [ho] at ho'
    cases ho'
    rw [hc] at hc'
    cases hc'
  obtain ⟨_, _, _, _, _, _, _, _, _, hA, _⟩ := id h
  refine pinv_step h ((Below.refl _ W).grown hg (Nat.le_trans (Nat.le_refl _) hA.below.size) fun r e => Nat.le_trans hw (hr r e).1) hg.size (fun b i v _ hv => ?_) (fun o ho hc => key S o ho hc) (fun o ho hc => key R o ho hc)
  cases ho : W.heap[b]? with
  | none => simp [World.cell?, ho] at hv
  | some o =>
    have hc : o.isCells = true := by
      cases o <;> first | rfl | simp [World.cell?, ho] at hv
    rw [← hv]
    exact World.cell?_of_block ((key b o ho hc).trans ho.symm)
theorem pinv_st {I : Nat → Nat → Prop} {w : World} {k : Nat} {q : S31} {S R B : Nat} (hB : w.heap.size ≤ B) (hS : S ≠ B) (hR : R ≠ B) : ∀ pre X Y, PInv I w k q S R B pre X → StY B X Y → PInv I w k q S R B pre Y := by
  rintro pre X Y h (hb | ⟨v, rfl⟩)
  · have key : ∀ (b : Nat) (o : Go.Obj), X.heap[b]? = some o → Y.heap[b]? = some o := fun b o ho => (hb.block b (Array.getElem?_eq_some_iff.1 ho).1).trans ho
    obtain ⟨_, _, _, _, _, _, _, _, _, hA, _⟩ := id h
    refine pinv_step h (hb.mono hA.below.size) hb.size (fun b i v _ hv => ?_) (fun o ho _ => key S o ho) (fun o ho _ => key R o ho)
    exact (hb.cell (p := ⟨b, i, none⟩) (World.block_lt_of_cell? _ _ hv)).trans hv
  · refine pinv_step h ((Below.refl _ X).setCell (p := ⟨B, 0, none⟩) hB v) (KeepsOthers.setCell X _ v).size (fun b i u hne hv => ?_) (fun o ho _ => (Below.heap_setCell X _ v S hS).trans ho) (fun o ho _ => (Below.heap_setCell X _ v R hR).trans ho)
    rw [← hv]
    exact World.cell?_of_block (Below.heap_setCell X ⟨B, 0, none⟩ v b hne)
set_option maxRecDepth 100000 in
set_option maxHeartbeats 4000000 in
theorem part_act {I : Nat → Nat → Prop} {w : World} (hG : Glob I w) (hI : ∀ b i, I b i → b < w.heap.size) {k : Nat} {x1 x2 n : Int} (hd : daycount_Days.f k 3 x1 x2 = some (n, 0)) {q : S31 × Int} (hq : ratio_Of.f k 0 1 = some q)
    {L : List (Int × Int)} (hL : YL k x2 x1 L) {r : S31} (hr : sm k q.1 L = some r) :
    Calls Tryd.prog 10 #[.int .i64 3, .int .i32 x1, .int .i32 x2] w (PartR I w (r, 0)) := by
  refine callsIn_wide (n := 3).mp ?_
  have hA0 := At.start hG hI
  have hA1 : ∀ w2, Below (w.alloc (.cells #[.bool false, .slice none 0 0, .slice none 0 0] 31)).heap.size (w.alloc (.cells #[.bool false, .slice none 0 0, .slice none 0 0] 31)) w2 → Below w.heap.size w w2 := fun w2 d2 => ((Below.refl _ w).alloc (Nat.le_refl _) _).trans (d2.mono (by simp))
  have hY0 := y_calls hG hI k
  have hday : ∀ {W}, At I w I W → CallsIn Fence.wide 2 Tryd.prog 8 #[.int .i64 3, .int .i32 x1, .int .i32 x2] W fun e W' => e = .returned (.tuple #[.int .i64 n, .int .i64 0]) ∧ Below W.heap.size W W' := fun h => callsIn_wide.2 (days_call h hd)
  have toF : ∀ {m f args W R}, Calls Tryd.prog f args W R → CallsIn Fence.wide m Tryd.prog f args W R := fun h => callsIn_wide.2 h
  obtain ⟨F, hFw⟩ : ∃ F : Fence, F = Fence.wide := ⟨_, rfl⟩
  have f8 : F.fn 8 := by rw [hFw]; trivial
  have f10 : F.fn 10 := by rw [hFw]; trivial
  have f26 : F.fn 26 := by rw [hFw]; trivial
  have f17 : F.fn 17 := by rw [hFw]; trivial
  have f27 : F.fn 27 := by rw [hFw]; trivial
  have f46 : F.fn 46 := by rw [hFw]; trivial
  have hro : F.round = none := by rw [hFw]; rfl
  rw [← hFw] at hY0 toF hday ⊢
  clear hFw
  refine callsIn_of_wp_marks Tryd.func10 rfl f10 ?_ hro
  simp only [Tryd.ntmps10, List.size_toArray, List.length_cons, List.length_nil, Nat.reduceAdd, Nat.reduceSub, Array.replicate_succ, Array.replicate_zero, List.push_toArray, List.append_toArray, List.nil_append, List.cons_append]
  gi_wp2_with (first
    | (gi_at_call 8; refine (hday (hA0.below_all ((Below.refl _ w).alloc (Nat.le_refl _) _))).mono ?_; rintro e w2 ⟨rfl, d2⟩; have bR := (Blk3.new w (.bool false) (.slice none 0 0) (.slice none 0 0)).below d2)
    | (gi_at_call 26; refine (toF (of_call (hA0.below_all (hA1 w2 d2)) hq)).mono ?_; rintro e w3 ⟨va, vb, I3, rfl, hA3, hag, d3, hrt⟩; obtain ⟨Aa, na, ca, rfl⟩ := rep_sl hrt.1; obtain ⟨Ab, nb, cb, rfl⟩ := rep_sl hrt.2; have bR3 := bR.below d3)
    | (gi_at_call 27; refine (years_in F _ f27 hro _ _ _).mono ?_; rintro e w4 ⟨B, rfl, hB, b1, b2, d4⟩))
  have hB' : w3.heap.size + 1 ≤ B := by simpa using hB
  have hw3 : w.heap.size < w3.heap.size := bR3.lt
  have bS := (Blk3.new w3 (.bool q.1.f0) (.slice Aa na ca) (.slice Ab nb cb)).below d4
  have bR4 : Blk3 w4 w.heap.size (.bool false) (.slice none 0 0) (.slice none 0 0) := (bR3.of (Below.heap_alloc w3 _ _ hw3)).below d4
  have d34 : Below w3.heap.size w3 w4 := ((Below.refl _ w3).alloc (Nat.le_refl _) _).trans (d4.mono (by simp))
  have hA4 : At I w I3 w4 := hA3.below_all d34
  have hrt4 : Rt I3 w4 q.1 (.slice Aa na ca) (.slice Ab nb cb) := rt_below hrt hA3.bound d34
  have hni : ∀ i, ¬ I3 w3.heap.size i ∧ ¬ I3 w.heap.size i ∧ ¬ I3 B i := fun i => ⟨fun h => by have := hA3.bound _ _ h; omega, fun h => by have := hI _ _ ((hag _ i bR.lt).1 h); omega, fun h => by have := hA3.bound _ _ h; omega⟩
  have hB4 : B + 1 < w4.heap.size := b2.lt
  have hwS : w.heap.size ≤ w3.heap.size := by omega
  clear d2 bR hA3 hag d3 hrt bR3 hA1 hday hA0
  refine wpIn_rangeFunc_st hro (by decide) (gf := 46) (lb := #[.pointer (some ⟨B, 0, none⟩), .pointer (some ⟨B + 1, 0, none⟩)]) rfl f46 (enters_of Tryd.func46 (by kernel_rfl) rfl)
    (years_seq F 2 f46 hro (by omega) k w w4 B x1 x2 L hL hY0 hA4.below (by omega) b1 b2) hSt_y KpY.trans (hKb_y hwS hB' hB4) (fun _ => rfl)
    (PInv I w k q.1 w3.heap.size w.heap.size B) (pinv_own (Nat.le_of_lt (Nat.lt_of_le_of_lt hwS bS.lt)) bS.lt hB4) (pinv_st (by omega) (by omega) (by omega)) ⟨q.1, I3, Aa, na, ca, Ab, nb, cb, rfl, hA4, hrt4, bS, bR4, hni, hB4⟩
    (fun x => { tmps := #[.int .i64 3, .int .i32 x1, .int .i32 x2, undef, undef, undef, .pointer (some ⟨w.heap.size, 0, none⟩), .int .i64 0, .int .i64 n, .int .i64 0, .pointer (some ⟨w3.heap.size, 0, none⟩), .int .i64 q.2, .int .i64 x.1, .int .i64 x.2, undef, undef, .tuple #[.int .i64 n, .int .i64 0], .int .i64 3, .int .i32 x1, .int .i32 x2, .tuple #[.int .i64 n, .int .i64 0], .int .i64 n, .int .i64 0, .bool false, .int .i64 0, .bool false, undef, undef, .bool false, .int .i64 3, .bool false, undef, undef, undef, undef, .bool false, .int .i64 3, .bool false, undef, undef, undef, undef, .tuple #[.agg #[.bool q.1.f0, .slice Aa na ca, .slice Ab nb cb], .int .i64 q.2], .tuple #[.agg #[.bool q.1.f0, .slice Aa na ca, .slice Ab nb cb], .int .i64 q.2], .agg #[.bool q.1.f0, .slice Aa na ca, .slice Ab nb cb], .int .i64 q.2, .int .i32 x1, .int .i32 x2, .func (.func 46) #[] #[.pointer (some ⟨B, 0, none⟩), .pointer (some ⟨B + 1, 0, none⟩)], .int .i64 x.1, .int .i64 x.2, undef, undef, undef, undef, undef, undef, undef, undef, undef, undef, undef, undef, undef], defers := [] }) ?assign ?body ?done
  case assign =>
    intro l x W K hK
    gi_wp2
    exact hK
  case body =>
    rintro l pre x post W eL ⟨s, I', a1, n1, c1, a2, n2, c2, hs, hA, hr1, hS, hR, hn, hBW⟩
    have hr' := hr
    rw [eL, sm_append, hs] at hr'
    obtain ⟨q2, v, hq2, hv, _⟩ := sm_one (show sm k s (x :: post) = some r from hr')
    have hs2 : sm k q.1 (pre ++ [x]) = some v.1 := by
      rw [sm_append, hs]
      show ((ratio_Of.f k x.1 x.2).bind fun q => (ratio_Add.f k s q.1).bind fun u => sm k u.1 []) = _
      rw [hq2]
      show ((ratio_Add.f k s q2.1).bind fun u => sm k u.1 []) = _
      rw [hv]
      rfl
    clear hr' hr hY0 hG hI hA4 hrt4 hni b1 b2 d4 d34 hL hd hq
    have hs' := Lib.hid hs
    clear hs
    gi_wp2_with (first
      | (gi_at_call 26; refine (CallsIn.inRound l (toF (of_call hA hq2))).mono ?_; rintro e w5 ⟨va, vb, I5, rfl, hA5, hag5, d5, hrt5⟩; obtain ⟨Ac, nc, cc, rfl⟩ := rep_sl hrt5.1; obtain ⟨Ad, nd, cd, rfl⟩ := rep_sl hrt5.2
         have dal := (Below.refl _ w5).alloc (Nat.le_refl _) (.cells #[.bool q2.1.f0, .slice Ac nc cc, .slice Ad nd cd] 31)
         have hr6 := rt_below (rt_more hr1 fun b i q => ⟨(hag5 b i (hA.bound b i q)).2 q, d5.block b (hA.bound b i q)⟩) hA5.bound dal
         have hrt6 := rt_below hrt5 hA5.bound dal
         have hA6 := hA5.below_all dal
         have hS6 := (hS.below d5).below dal
         have hR6 := (hR.below d5).below dal
         obtain ⟨⟨m0, m1, m2⟩, _⟩ := hS6.cells)
      | (gi_at_call 17; refine (CallsIn.inRound l (toF (add_call hA6 hv hr6 hrt6))).mono ?_; rintro e w7 ⟨va, vb, I7, rfl, hA7, hag7, d7, hrt7⟩; obtain ⟨Ae, ne, ce, rfl⟩ := rep_sl hrt7.1; obtain ⟨Af, nf, cf, rfl⟩ := rep_sl hrt7.2
         have hS7 := hS6.below d7
         have hR7 := hR6.below d7
         obtain ⟨⟨o0, o1, o2⟩, o3, o4, o5⟩ := hS7.cells))
    have dw : Below W.heap.size W w7 := (d5.trans (dal.mono d5.size)).trans (d7.mono (Nat.le_trans d5.size dal.size))
    have hSW := hS.lt
    have hRW := hR.lt
    have hW6 : W.heap.size ≤ (w5.alloc (.cells #[.bool q2.1.f0, .slice Ac nc cc, .slice Ad nd cd] 31)).heap.size := Nat.le_trans d5.size dal.size
    have no : ∀ b i, b < W.heap.size → ¬ I' b i → ¬ I7 b i := fun b i hb h h' => h ((hag5 b i hb).1 ((hag7 b i (Nat.lt_of_lt_of_le hb hW6)).1 h'))
    have kf : KeepsFrom w4.heap.size W w7 := ⟨dw.size, fun k o _ hk _ => (dw.block k (Array.getElem?_eq_some_iff.1 hk).1).trans hk⟩
    refine ⟨kf.trans ((((KeepsOthers.setCell _ _ _).trans (KeepsOthers.setCell _ _ _)).trans (KeepsOthers.setCell _ _ _)).from _), ?_, ?_⟩
    · exact ⟨(dw.mono hA.below.size).trans (put3_below hwS _ _ _), (put3_other w7 _ _ _ (by omega)).trans (dw.block B (by omega)), (put3_other w7 _ _ _ (by omega)).trans (dw.block (B + 1) hBW)⟩
    · exact ⟨v.1, I7, Ae, ne, ce, Af, nf, cf, hs2, hA7.put hwS (fun i => no _ i hSW (hn i).1) _ _ _, rt_put hrt7 (fun i => no _ i hSW (hn i).1) _ _ _, hS7.put _ _ _, hR7.of (put3_other w7 _ _ _ (by omega)),
        fun i => ⟨no _ i hSW (hn i).1, no _ i hRW (hn i).2.1, no _ i (by omega) (hn i).2.2⟩, Nat.lt_of_lt_of_le hBW (Nat.le_trans dw.size (Nat.le_of_eq (put3_size w7 _ _ _ _).symm))⟩
  case done =>
    rintro D W hD ⟨s, I', a1, n1, c1, a2, n2, c2, hs, hA, hr1, hS, hR, hn, hBW⟩ hK
    obtain ⟨⟨r0, r1, r2⟩, g0, g1, g2⟩ := hS.cells
    obtain ⟨⟨r3, r4, r5⟩, g3, g4, g5⟩ := hR.cells
    rw [hr] at hs
    cases hs
    gi_wp2
    have hRW := hR.lt
    have hR4 := bR4.lt
    have hDR : D ≠ w.heap.size := by omega
    have hK' : (put3 W w.heap.size (.bool r.f0) (.slice a1 n1 c1) (.slice a2 n2 c2)).heap[D]? = some (.deferred (some [])) := (put3_other W _ _ _ hDR).trans hK
    refine ⟨by simp, .inl ⟨_, _, rfl, run_takeDeferred hK', ?_⟩⟩
    have hbl : Below w.heap.size (put3 W w.heap.size (.bool r.f0) (.slice a1 n1 c1) (.slice a2 n2 c2)) ((put3 W w.heap.size (.bool r.f0) (.slice a1 n1 c1) (.slice a2 n2 c2)).putObj D (.deferred none)) :=
      belowK_b (w := w4) (by omega) _ D _ _ (by omega) hK' rfl rfl
    have hA8 := hA.put (Nat.le_refl _) (fun i => (hn i).2.1) (.bool r.f0) (.slice a1 n1 c1) (.slice a2 n2 c2)
    have hr8 := rt_put hr1 (fun i => (hn i).2.1) (.bool r.f0) (.slice a1 n1 c1) (.slice a2 n2 c2)
    have hcell : ∀ b i v, I' b i → (put3 W w.heap.size (.bool r.f0) (.slice a1 n1 c1) (.slice a2 n2 c2)).cell? ⟨b, i, none⟩ = some v → ((put3 W w.heap.size (.bool r.f0) (.slice a1 n1 c1) (.slice a2 n2 c2)).putObj D (.deferred none)).cell? ⟨b, i, none⟩ = some v := fun b i v _ hv => by
      by_cases hb : b = D
      · subst hb
        simp [World.cell?, hK'] at hv
      · rw [← hv]
        exact World.cell?_of_block (World.putObj_heap_other hb)
    exact ⟨_, part_results ((hR.put _ _ _).of (World.putObj_heap_other (Ne.symm hDR))) rfl rfl, _, I', rfl, ⟨hA8.below.trans hbl, hA8.agree, fun b i h => Nat.lt_of_lt_of_le (hA8.bound b i h) hbl.size, fun k cs e => (hA8.glob k cs e).mono2 (fun _ _ h => h) hcell⟩,
      rat_res ⟨hr8.1.mono2 (fun _ _ h => h) hcell, hr8.2.mono2 (fun _ _ h => h) hcell⟩ 0⟩
theorem three_args {I : Nat → Nat → Prop} {w : World} {vals : Array Value} {b f t : Int} (ha : RepAs I w vals.toList [(false, [.sc (.int .i64 b)]), (false, [.sc (.int .i32 f)]), (false, [.sc (.int .i32 t)])]) :
    vals = #[.int .i64 b, .int .i32 f, .int .i32 t] := by
  obtain ⟨x, y, z, rfl⟩ := three_vals (vs := vals) (by simpa using ha.1)
  have hx : RepP I w x (.sc (.int .i64 b)) := ha.2 0 _ x rfl rfl
  have hy : RepP I w y (.sc (.int .i32 f)) := ha.2 1 _ y rfl rfl
  have hz : RepP I w z (.sc (.int .i32 t)) := ha.2 2 _ z rfl rfl
  cases hx; cases hy; cases hz
  rfl
theorem part_calls {I : Nat → Nat → Prop} {w : World} (hG : Glob I w) (hI : ∀ b i, I b i → b < w.heap.size) {k : Nat} {x0 x1 x2 : Int} {r : S31 × Int} (h : daycount_Part.f k x0 x1 x2 = some r) :
    Calls Tryd.prog 10 #[.int .i64 x0, .int .i32 x1, .int .i32 x2] w (PartR I w r) := by
  unfold daycount_Part.f at h
  obtain ⟨d, hd, h⟩ := Option.bind_eq_some_iff.1 h
  by_cases hd2 : d.2 = 0
  · rw [if_pos hd2] at h
    by_cases h0 : x0 = 0
    · rw [if_pos h0] at h
      exact part_of hG hI hd hd2 (by omega) (by rw [if_pos h0]; exact h)
    · rw [if_neg h0] at h
      by_cases h3 : x0 = 3
      · rw [if_pos h3] at h
        obtain ⟨q, hq, h⟩ := Option.bind_eq_some_iff.1 h
        obtain ⟨s, hs, h⟩ := Option.bind_eq_some_iff.1 h
        cases h
        subst h3
        obtain ⟨n, e⟩ := d
        obtain rfl : e = 0 := hd2
        obtain ⟨L, hL, hr⟩ := part_list k k x1 x2 q.1 s (Nat.le_refl _) hs
        exact part_act hG hI hd hq hL hr
      · rw [if_neg h3] at h
        exact part_of hG hI hd hd2 h3 (by rw [if_neg h0]; exact h)
  · rw [if_neg hd2] at h
    cases h
    exact part_wrong hG hI hd hd2
theorem owes10 {xs rs : List Arg} (h : ext10 xs = some rs) : Owes E0 10 xs rs := by
  unfold ext10 at h
  split at h
  · rename_i b f t
    simp only [Option.map_eq_some_iff] at h
    obtain ⟨r, hr, rfl⟩ := h
    obtain ⟨k, hk⟩ := exF_some hr
    refine ⟨⟨Tryd.f10, Tryd.func10, rfl, by kernel_rfl⟩, fun I w vals hG hI ha => ?_⟩
    obtain rfl := three_args ha
    refine (part_calls hG hI hk).mono fun e W hq => ?_
    obtain ⟨v, I', rfl, hA, hr⟩ := hq
    exact ⟨v, I', rfl, hA.below, hA.agree, hA.bound, hr⟩
  · cases h
theorem ext0_ok : ExtOk C0.E C0.ext := fun f h xs rs hf hx => by
  have hf' : ext0 f = some h := hf
  unfold ext0 at hf'
  split at hf'
  · rename_i e
    subst e
    cases hf'
    exact owes10 hx
  · exact extA_ok f h xs rs hf' hx
end Go.Proofs.YtjhljcnjafbkfaaDoor.X
