import Derived.Test.YtjhljcnjafbkfaaDoorQC14
import Derived.Laws.ResultCell
import Derived.Laws.Rows
set_option linter.unusedSimpArgs false
set_option linter.unusedVariables false
set_option linter.unusedVariables false
namespace Go.Proofs.YtjhljcnjafbkfaaDoor.X
open Go.RowKit Go.Shelf
attribute [local go_sem] Oper.semAt_some
theorem ext1_ok : ExtOk C1.E C1.ext := fun f h xs rs hf hx => by
  have hf' : ext1 f = some h := hf
  unfold ext1 at hf'
  split at hf'
  · cases hf'
    cases hx
  · exact extA_ok f h xs rs hf' hx
def Glob (I : Nat → Nat → Prop) (w : World) : Prop := ∀ k cs, E0.G k = some cs → RepP I w (.pointer (some ⟨k, 0, none⟩)) (.ref cs)
structure At (I : Nat → Nat → Prop) (w : World) (I' : Nat → Nat → Prop) (W : World) : Prop where
  below : Below w.heap.size w W
  agree : ∀ b i, b < w.heap.size → (I' b i ↔ I b i)
  bound : ∀ b i, I' b i → b < W.heap.size
  glob : Glob I' W
theorem At.start {I : Nat → Nat → Prop} {w : World} (hG : Glob I w) (hI : ∀ b i, I b i → b < w.heap.size) : At I w I w := ⟨Below.refl _ _, fun _ _ _ => Iff.rfl, hI, hG⟩
theorem At.move {I I' : Nat → Nat → Prop} {w W W' : World} (h : At I w I' W) (hb : Below w.heap.size W W') (hs : W.heap.size ≤ W'.heap.size) (hc : ∀ b i, I' b i → W'.heap[b]? = W.heap[b]?) : At I w I' W' :=
  ⟨h.below.trans hb, h.agree, fun b i q => Nat.lt_of_lt_of_le (h.bound b i q) hs, fun k cs e => (h.glob k cs e).mono (fun _ _ q => q) fun b i q => World.cell?_of_block (hc b i q)⟩
theorem At.below_all {I I' : Nat → Nat → Prop} {w W W' : World} (h : At I w I' W) (hb : Below W.heap.size W W') : At I w I' W' :=
  h.move (hb.mono h.below.size) hb.size fun b i q => hb.block b (h.bound b i q)
theorem At.call {I I' : Nat → Nat → Prop} {w W : World} {f : FuncId} {xs rs : List Arg} (h : Ret C1 f xs rs) (hA : At I w I' W) {vals : Array Value} (ha : RepAs I' W vals.toList xs) :
    Calls Tryd.prog f vals W fun e W' => ∃ v I'', e = .returned v ∧ At I w I'' W' ∧ (∀ b i, b < W.heap.size → (I'' b i ↔ I' b i)) ∧ Below W.heap.size W W' ∧ ResA I'' W' v rs := by
  refine (h.callsI (w := W) (I := I') progOk ext1_ok hA.glob hA.bound ha).mono fun e W' hq => ?_
  obtain ⟨v, I'', rfl, hb, h1, h2, h3⟩ := hq
  exact ⟨v, I'', rfl, ⟨hA.below.trans (hb.mono hA.below.size), fun b i q => (h1 b i (Nat.lt_of_lt_of_le q hA.below.size)).trans (hA.agree b i q), h2,
    fun k cs e => (hA.glob k cs e).mono (fun b i q => (h1 b i (hA.bound b i q)).2 q) fun b i q => World.cell?_of_block (hb.block b (hA.bound b i q))⟩, h1, hb, h3⟩
theorem two_vals {vs : Array Value} (h : vs.size = 2) : ∃ a b, vs = #[a, b] := by
  obtain ⟨l⟩ := vs
  match l, h with
  | [a, b], _ => exact ⟨a, b, rfl⟩
theorem three_vals {vs : Array Value} (h : vs.size = 3) : ∃ a b c, vs = #[a, b, c] := by
  obtain ⟨l⟩ := vs
  match l, h with
  | [a, b, c], _ => exact ⟨a, b, c, rfl⟩
theorem four_vals {vs : Array Value} (h : vs.size = 4) : ∃ a b c d, vs = #[a, b, c, d] := by
  obtain ⟨l⟩ := vs
  match l, h with
  | [a, b, c, d], _ => exact ⟨a, b, c, d, rfl⟩
def Rt (I : Nat → Nat → Prop) (W : World) (s : S31) (a b : Value) : Prop := RepP I W a (.sl 1 (s.f1.map e78)) ∧ RepP I W b (.sl 1 (s.f2.map e78))
theorem res_rat {I : Nat → Nat → Prop} {W : World} {v : Value} {s : S31} {e : Int} (h : ResA I W v [aA [pB s.f0, .sl 1 (s.f1.map e78), .sl 1 (s.f2.map e78)], aV [pI .i64 e]]) :
    ∃ a b, v = .tuple #[.agg #[.bool s.f0, a, b], .int .i64 e] ∧ Rt I W s a b := by
  obtain ⟨vs, rfl, h1, h2⟩ := h
  obtain ⟨x, y, rfl⟩ := two_vals h1
  have hx := h2 0 _ x rfl rfl
  have hy := h2 1 _ y rfl rfl
  obtain ⟨us, rfl, h3, h4⟩ := hx
  obtain ⟨p, q, r, rfl⟩ := three_vals h3
  have h5 := h4 0 _ p rfl rfl
  cases h5
  have hy' : RepP I W y (.sc (.int .i64 e)) := hy
  cases hy'
  exact ⟨q, r, rfl, h4 1 _ q rfl rfl, h4 2 _ r rfl rfl⟩
theorem res_ints {I : Nat → Nat → Prop} {W : World} {v : Value} {a b : Int} (h : ResA I W v [aV [pI .i64 a], aV [pI .i64 b]]) : v = .tuple #[.int .i64 a, .int .i64 b] := by
  obtain ⟨vs, rfl, h1, h2⟩ := h
  obtain ⟨x, y, rfl⟩ := two_vals h1
  have hx : RepP I W x (.sc (.int .i64 a)) := h2 0 _ x rfl rfl
  have hy : RepP I W y (.sc (.int .i64 b)) := h2 1 _ y rfl rfl
  cases hx
  cases hy
  rfl
theorem res_four {I : Nat → Nat → Prop} {W : World} {v : Value} {a b c d : Int} (h : ResA I W v [aV [pI .i64 a], aV [pI .i64 b], aV [pI .i64 c], aV [pI .i64 d]]) : v = .tuple #[.int .i64 a, .int .i64 b, .int .i64 c, .int .i64 d] := by
  obtain ⟨vs, rfl, h1, h2⟩ := h
  obtain ⟨x, y, z, u, rfl⟩ := four_vals h1
  have hx : RepP I W x (.sc (.int .i64 a)) := h2 0 _ x rfl rfl
  have hy : RepP I W y (.sc (.int .i64 b)) := h2 1 _ y rfl rfl
  have hz : RepP I W z (.sc (.int .i64 c)) := h2 2 _ z rfl rfl
  have hu : RepP I W u (.sc (.int .i64 d)) := h2 3 _ u rfl rfl
  cases hx; cases hy; cases hz; cases hu
  rfl
theorem rep_agg {I : Nat → Nat → Prop} {W : World} {s : S31} {a b : Value} (h : Rt I W s a b) : RepA I W (.agg #[.bool s.f0, a, b]) (true, [.sc (.bool s.f0), .sl 1 (s.f1.map e78), .sl 1 (s.f2.map e78)]) :=
  ⟨_, rfl, rfl, fun j y u hy hu => by
    match j with
    | 0 => cases hy; cases hu; exact .sc rfl
    | 1 => cases hy; cases hu; exact h.1
    | 2 => cases hy; cases hu; exact h.2
    | j + 3 => simp at hy⟩
theorem days_call {I I' : Nat → Nat → Prop} {w W : World} (hA : At I w I' W) {k : Nat} {x0 x1 x2 : Int} {d : Int × Int} (h : daycount_Days.f k x0 x1 x2 = some d) :
    Calls Tryd.prog 8 #[.int .i64 x0, .int .i32 x1, .int .i32 x2] W fun e W' => e = .returned (.tuple #[.int .i64 d.1, .int .i64 d.2]) ∧ Below W.heap.size W W' := by
  refine (At.call (daycount_Days.ok k x0 x1 x2 d h) hA (.cons arg_intP (.cons arg_intP (.cons arg_intP .nil)))).mono fun e W' hq => ?_
  obtain ⟨v, I'', rfl, _, _, hb, hr⟩ := hq
  exact ⟨by rw [res_ints hr], hb⟩
theorem of_call {I I' : Nat → Nat → Prop} {w W : World} (hA : At I w I' W) {k : Nat} {n d : Int} {r : S31 × Int} (h : ratio_Of.f k n d = some r) :
    Calls Tryd.prog 26 #[.int .i64 n, .int .i64 d] W fun e W' => ∃ a b I'', e = .returned (.tuple #[.agg #[.bool r.1.f0, a, b], .int .i64 r.2]) ∧ At I w I'' W' ∧ (∀ b i, b < W.heap.size → (I'' b i ↔ I' b i)) ∧ Below W.heap.size W W' ∧ Rt I'' W' r.1 a b := by
  refine (At.call (ratio_Of.ok k n d r h) hA (.cons arg_intP (.cons arg_intP .nil))).mono fun e W' hq => ?_
  obtain ⟨v, I'', rfl, h1, h2, hb, hr⟩ := hq
  obtain ⟨a, b, rfl, h3⟩ := res_rat hr
  exact ⟨a, b, I'', rfl, h1, h2, hb, h3⟩
theorem add_call {I I' : Nat → Nat → Prop} {w W : World} (hA : At I w I' W) {k : Nat} {x y : S31} {r : S31 × Int} (h : ratio_Add.f k x y = some r) {a b c d : Value} (hx : Rt I' W x a b) (hy : Rt I' W y c d) :
    Calls Tryd.prog 17 #[.agg #[.bool x.f0, a, b], .agg #[.bool y.f0, c, d]] W fun e W' => ∃ a b I'', e = .returned (.tuple #[.agg #[.bool r.1.f0, a, b], .int .i64 r.2]) ∧ At I w I'' W' ∧ (∀ b i, b < W.heap.size → (I'' b i ↔ I' b i)) ∧ Below W.heap.size W W' ∧ Rt I'' W' r.1 a b := by
  refine (At.call (ratio_Add.ok k x y r h) hA (.cons (rep_agg hx) (.cons (rep_agg hy) .nil))).mono fun e W' hq => ?_
  obtain ⟨v, I'', rfl, h1, h2, hb, hr⟩ := hq
  obtain ⟨a, b, rfl, h3⟩ := res_rat hr
  exact ⟨a, b, I'', rfl, h1, h2, hb, h3⟩
theorem y_calls {I : Nat → Nat → Prop} {w : World} (hG : Glob I w) (hI : ∀ b i, I b i → b < w.heap.size) (k : Nat) : YCalls Fence.wide w k := by
  refine ⟨⟨trivial, trivial, trivial⟩, fun n W f p hb h => callsIn_wide.2 ?_, fun n W y q hb h => callsIn_wide.2 ?_, fun n W y m d a hb h => callsIn_wide.2 ?_⟩
  · refine (At.call (date_Split.ok k f p h) ((At.start hG hI).below_all hb) (.cons arg_intP .nil)).mono fun e W' hq => ?_
    obtain ⟨v, I'', rfl, _, _, hb, hr⟩ := hq
    exact ⟨by rw [res_four hr], hb⟩
  · refine (At.call (date_Leap.ok y q h) ((At.start hG hI).below_all hb) (.cons arg_intP .nil)).mono fun e W' hq => ?_
    obtain ⟨v, I'', rfl, _, _, hb, hr⟩ := hq
    exact ⟨by rw [res_bool hr], hb⟩
  · refine (At.call (daycount_ahead.ok k y m d a h) ((At.start hG hI).below_all hb) (.cons arg_intP (.cons arg_intP (.cons arg_intP .nil)))).mono fun e W' hq => ?_
    obtain ⟨v, I'', rfl, _, _, hb, hr⟩ := hq
    have hr' : RepP I'' W' v (.sc (.int .i64 a)) := hr
    cases hr'
    exact ⟨rfl, hb⟩
def Blk3 (W : World) (B : Nat) (a b c : Value) : Prop := W.heap[B]? = some (.cells #[a, b, c] 31 (0, 0))
theorem Blk3.cells {W : World} {B : Nat} {a b c : Value} (h : Blk3 W B a b c) :
    (W.cell? ⟨B, 0, none⟩ = some a ∧ W.cell? ⟨B, 1, none⟩ = some b ∧ W.cell? ⟨B, 2, none⟩ = some c) ∧ W.frozen? ⟨B, 0, none⟩ = false ∧ W.frozen? ⟨B, 1, none⟩ = false ∧ W.frozen? ⟨B, 2, none⟩ = false := by
  have h' : W.heap[B]? = some (.cells #[a, b, c] 31 (0, 0)) := h
  simp [World.cell?, World.frozen?, h']
theorem Blk3.lt {W : World} {B : Nat} {a b c : Value} (h : Blk3 W B a b c) : B < W.heap.size := (Array.getElem?_eq_some_iff.1 h).1
theorem Blk3.new (W : World) (a b c : Value) : Blk3 (W.alloc (.cells #[a, b, c] 31)) W.heap.size a b c := World.alloc_heap_new W _
theorem Blk3.of {W W' : World} {B : Nat} {a b c : Value} (h : Blk3 W B a b c) (e : W'.heap[B]? = W.heap[B]?) : Blk3 W' B a b c := e.trans h
theorem Blk3.below {W W' : World} {B : Nat} {a b c : Value} (h : Blk3 W B a b c) (e : Below W.heap.size W W') : Blk3 W' B a b c := h.of (e.block B h.lt)
def put3 (W : World) (B : Nat) (a b c : Value) : World := ((W.setCell ⟨B, 0, none⟩ a).setCell ⟨B, 1, none⟩ b).setCell ⟨B, 2, none⟩ c
theorem put3_other (W : World) {B j : Nat} (a b c : Value) (h : j ≠ B) : (put3 W B a b c).heap[j]? = W.heap[j]? := by
  unfold put3
  rw [Below.heap_setCell _ _ _ j h, Below.heap_setCell _ _ _ j h, Below.heap_setCell _ _ _ j h]
theorem Blk3.put {W : World} {B : Nat} {a b c : Value} (h : Blk3 W B a b c) (a' b' c' : Value) : Blk3 (put3 W B a' b' c') B a' b' c' := by
  obtain ⟨hlt, hk⟩ := Array.getElem?_eq_some_iff.1 h
  unfold Blk3 put3 World.setCell
  simp [hlt, hk, Array.getElem_modify]
theorem put3_below {n₀ : Nat} {W : World} {B : Nat} (h : n₀ ≤ B) (a b c : Value) : Below n₀ W (put3 W B a b c) :=
  (((Below.refl n₀ W).setCell (p := ⟨B, 0, none⟩) h a).setCell (p := ⟨B, 1, none⟩) h b).setCell (p := ⟨B, 2, none⟩) h c
theorem put3_size (W : World) (B : Nat) (a b c : Value) : (put3 W B a b c).heap.size = W.heap.size := by
  unfold put3 World.setCell
  simp
theorem At.put {I I' : Nat → Nat → Prop} {w W : World} (h : At I w I' W) {B : Nat} (hB : w.heap.size ≤ B) (hI : ∀ i, ¬ I' B i) (a b c : Value) : At I w I' (put3 W B a b c) :=
  h.move (put3_below hB a b c) (Nat.le_of_eq (put3_size W B a b c).symm) fun b' i q => put3_other W a b c fun e => hI i (e ▸ q)
theorem rt_put {I : Nat → Nat → Prop} {W : World} {s : S31} {x y : Value} (h : Rt I W s x y) {B : Nat} (hI : ∀ i, ¬ I B i) (a b c : Value) : Rt I (put3 W B a b c) s x y :=
  ⟨h.1.mono (fun _ _ q => q) fun b' i q => World.cell?_of_block (put3_other W a b c fun e => hI i (show I B i from (show b' = B from e) ▸ q)), h.2.mono (fun _ _ q => q) fun b' i q => World.cell?_of_block (put3_other W a b c fun e => hI i (show I B i from (show b' = B from e) ▸ q))⟩
theorem rt_below {I : Nat → Nat → Prop} {W W' : World} {s : S31} {x y : Value} (h : Rt I W s x y) (hI : ∀ b i, I b i → b < W.heap.size) (hb : Below W.heap.size W W') : Rt I W' s x y :=
  ⟨h.1.mono (fun _ _ q => q) fun b' i q => World.cell?_of_block (hb.block _ (hI _ _ q)), h.2.mono (fun _ _ q => q) fun b' i q => World.cell?_of_block (hb.block _ (hI _ _ q))⟩
theorem rt_more {I I' : Nat → Nat → Prop} {W W' : World} {s : S31} {x y : Value} (h : Rt I W s x y) (hI : ∀ b i, I b i → I' b i ∧ W'.heap[b]? = W.heap[b]?) : Rt I' W' s x y :=
  ⟨h.1.mono (fun _ _ q => (hI _ _ q).1) fun b' i q => World.cell?_of_block (hI _ _ q).2, h.2.mono (fun _ _ q => (hI _ _ q).1) fun b' i q => World.cell?_of_block (hI _ _ q).2⟩
theorem rt_zero {I : Nat → Nat → Prop} {W : World} : Rt I W ⟨false, [], []⟩ (.slice none 0 0) (.slice none 0 0) := ⟨rep_nil none (fun a h => by cases h), rep_nil none (fun a h => by cases h)⟩
theorem rep_sl {I : Nat → Nat → Prop} {W : World} {v : Value} {z : Nat} {l : List (List PV)} (h : RepP I W v (.sl z l)) : ∃ A n cap, v = .slice A n cap := by
  cases h with
  | sl => exact ⟨_, _, _, rfl⟩
theorem rat_res {I : Nat → Nat → Prop} {W : World} {s : S31} {a b : Value} (h : Rt I W s a b) (e : Int) : ResA I W (.tuple #[.agg #[.bool s.f0, a, b], .int .i64 e]) [aA (e31 s), aV [pI .i64 e]] :=
  ⟨_, rfl, rfl, fun j y u hy hu => by
    match j with
    | 0 => cases hy; cases hu; exact rep_agg h
    | 1 => cases hy; cases hu; exact arg_intP
    | j + 2 => simp at hy⟩
def PartR (I : Nat → Nat → Prop) (w : World) (r : S31 × Int) (e : Ending) (W : World) : Prop := ∃ v I', e = .returned v ∧ At I w I' W ∧ ResA I' W v [aA (e31 r.1), aV [pI .i64 r.2]]
theorem part_results {W : World} {R : Nat} {a b c : Value} (hb : Blk3 W R a b c) {tmps : Array Value} {e : Int} (h6 : tmps.getD 6 undef = .pointer (some ⟨R, 0, none⟩)) (h7 : tmps.getD 7 undef = .int .i64 e) :
    (results Tryd.f10 tmps).run Tryd.prog W = .ok (.tuple #[.agg #[a, b, c], .int .i64 e]) W := by
  rw [results_cell_tmp (p := 6) (u := 7) (ty := 31) rfl, h6, h7]
  simp [asAddr, Result.andThen, run_loadVar_row W R 31 31 #[a, b, c] (0, 0) _ hb Tryd.underlying31 rfl (by kernel_rfl)]
theorem part_end {I I' : Nat → Nat → Prop} {w W : World} {R : Nat} {a b c : Value} {s : S31} {e : Int} (hA : At I w I' W) (hR : Blk3 W R a b c) (hB : w.heap.size ≤ R) (hI : ∀ i, ¬ I' R i) {x y : Value} (hx : Rt I' W s x y)
    {tmps : Array Value} (h6 : tmps.getD 6 undef = .pointer (some ⟨R, 0, none⟩)) (h7 : tmps.getD 7 undef = .int .i64 e) :
    bodyPost Tryd.prog Tryd.f10 (PartR I w (s, e)) .ret { tmps := tmps, defers := [] } (put3 W R (.bool s.f0) x y) :=
  bodyPost_ret (part_results (hR.put _ _ _) h6 h7) rfl ⟨_, I', rfl, hA.put hB hI _ _ _, rat_res (rt_put hx hI _ _ _) e⟩
theorem At.not_new {I I' : Nat → Nat → Prop} {w W : World} (hA : At I w I' W) {B : Nat} (hI : ∀ b i, I b i → b < w.heap.size) (h : W.heap.size ≤ B) (i : Nat) : ¬ I' B i := fun q => by
  have := hA.bound B i q
  omega
set_option maxRecDepth 100000 in
set_option maxHeartbeats 4000000 in
theorem part_wrong {I : Nat → Nat → Prop} {w : World} (hG : Glob I w) (hI : ∀ b i, I b i → b < w.heap.size) {k : Nat} {x0 x1 x2 : Int} {d : Int × Int} (hd : daycount_Days.f k x0 x1 x2 = some d) (hd2 : ¬ d.2 = 0) :
    Calls Tryd.prog 10 #[.int .i64 x0, .int .i32 x1, .int .i32 x2] w (PartR I w (⟨false, [], []⟩, d.2)) := by
  have hn : decide (d.2 = 0) = false := decide_eq_false hd2
  have hA0 := At.start hG hI
  go_enter Tryd.func10, Tryd.ntmps10
  go_wp2_with (go_at_call 8; refine (days_call (hA0.below_all ((Below.refl _ w).alloc (Nat.le_refl _) _)) hd).mono ?_; rintro e w2 ⟨rfl, d2⟩; have bR := (Blk3.new w (.bool false) (.slice none 0 0) (.slice none 0 0)).below d2; obtain ⟨⟨r0, r1, r2⟩, g0, g1, g2⟩ := bR.cells)
  all_goals try contradiction
  have hb2 : Below w.heap.size w w2 := ((Below.refl _ w).alloc (Nat.le_refl _) _).trans (d2.mono (by simp))
  exact part_end (s := ⟨false, [], []⟩) (hA0.below_all hb2) bR (Nat.le_refl _) (hA0.not_new hI (Nat.le_refl _)) rt_zero rfl rfl
set_option maxRecDepth 100000 in
set_option maxHeartbeats 4000000 in
theorem part_of {I : Nat → Nat → Prop} {w : World} (hG : Glob I w) (hI : ∀ b i, I b i → b < w.heap.size) {k : Nat} {x0 x1 x2 : Int} {d : Int × Int} (hd : daycount_Days.f k x0 x1 x2 = some d) (hd2 : d.2 = 0) {r : S31 × Int}
    (h3 : ¬ x0 = 3) (hr : ratio_Of.f k d.1 (if x0 = 0 then 365 else 360) = some r) :
    Calls Tryd.prog 10 #[.int .i64 x0, .int .i32 x1, .int .i32 x2] w (PartR I w r) := by
  have hA0 := At.start hG hI
  obtain ⟨n, e⟩ := d
  obtain rfl : e = 0 := hd2
  obtain ⟨rs, re⟩ := r
  have hA1 : ∀ w2, Below (w.alloc (.cells #[.bool false, .slice none 0 0, .slice none 0 0] 31)).heap.size (w.alloc (.cells #[.bool false, .slice none 0 0, .slice none 0 0] 31)) w2 → Below w.heap.size w w2 := fun w2 d2 => ((Below.refl _ w).alloc (Nat.le_refl _) _).trans (d2.mono (by simp))
  by_cases h0 : x0 = 0
  · subst h0
    rw [if_pos rfl] at hr
    go_enter Tryd.func10, Tryd.ntmps10
    go_wp2_with (first
      | (go_at_call 8; refine (days_call (hA0.below_all ((Below.refl _ w).alloc (Nat.le_refl _) _)) hd).mono ?_; rintro e w2 ⟨rfl, d2⟩; have bR := (Blk3.new w (.bool false) (.slice none 0 0) (.slice none 0 0)).below d2)
      | (go_at_call 26; refine (of_call (hA0.below_all (hA1 w2 d2)) hr).mono ?_; rintro e w3 ⟨va, vb, I', rfl, hA3, hag, d3, hrt⟩; obtain ⟨Aa, na, ca, rfl⟩ := rep_sl hrt.1; obtain ⟨Ab, nb, cb, rfl⟩ := rep_sl hrt.2; have bR3 := bR.below d3; obtain ⟨⟨r0, r1, r2⟩, g0, g1, g2⟩ := bR3.cells))
    all_goals try contradiction
    refine part_end (s := rs) (e := re) hA3 bR3 (Nat.le_refl _) (fun i q => hA0.not_new hI (Nat.le_refl _) i ((hag _ i bR.lt).1 q)) hrt ?_ ?_ <;> rfl
  · rw [if_neg h0] at hr
    have e0 : decide (x0 = 0) = false := decide_eq_false h0
    have e3 : decide (x0 = 3) = false := decide_eq_false h3
    have e0' : (x0 == 0) = false := beq_false_of_ne h0
    have e3' : (x0 != 3) = true := bne_iff_ne.2 h3
    go_enter Tryd.func10, Tryd.ntmps10
    go_wp2_with (first
      | (go_at_call 8; refine (days_call (hA0.below_all ((Below.refl _ w).alloc (Nat.le_refl _) _)) hd).mono ?_; rintro e w2 ⟨rfl, d2⟩; have bR := (Blk3.new w (.bool false) (.slice none 0 0) (.slice none 0 0)).below d2)
      | (go_at_call 26; refine (of_call (hA0.below_all (hA1 w2 d2)) hr).mono ?_; rintro e w3 ⟨va, vb, I', rfl, hA3, hag, d3, hrt⟩; obtain ⟨Aa, na, ca, rfl⟩ := rep_sl hrt.1; obtain ⟨Ab, nb, cb, rfl⟩ := rep_sl hrt.2; have bR3 := bR.below d3; obtain ⟨⟨r0, r1, r2⟩, g0, g1, g2⟩ := bR3.cells))
    all_goals try contradiction
    refine part_end (s := rs) (e := re) hA3 bR3 (Nat.le_refl _) (fun i q => hA0.not_new hI (Nat.le_refl _) i ((hag _ i bR.lt).1 q)) hrt ?_ ?_ <;> rfl
end Go.Proofs.YtjhljcnjafbkfaaDoor.X
