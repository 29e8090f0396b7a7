import Derived.Test.YtjhljcnjafbkfaaDoorQB9
import Derived.Test.YtjhljcnjafbkfaaDoorQB13
import Derived.Shelf.Abstract
import Derived.WalkKit
import Derived.OwnWalkIn
import Derived.TacticsInMore
import Derived.LoopNIn
import Derived.LoopIn
import Derived.Lib.Hide
import Derived.Stop.RegionWithIn
set_option linter.unusedSimpArgs false
set_option linter.unusedVariables false
set_option linter.unusedVariables false
namespace Go.Proofs.YtjhljcnjafbkfaaDoor.X
open Go.RowKit Go.Shelf
attribute [local go_sem] Oper.semAt_some
def yOf (q : Bool) : Int := if q = true then 366 else 365
def yN (f t a : Int) (q : Bool) : Int := wrap64 (min (wrap64 t) (wrap64 (wrap64 (wrap32 (f - wrap32 a)) + yOf q)) - wrap64 f)
inductive YL (k : Nat) (t : Int) : Int → List (Int × Int) → Prop
  | done {f : Int} (h : ¬ f < t) : YL k t f []
  | more {f : Int} {p : Int × Int × Int × Int} {q : Bool} {a : Int} {L : List (Int × Int)} (h : f < t) (hp : date_Split.f k f = some p) (hq : date_Leap.f p.1 = some q) (ha : daycount_ahead.f k p.1 p.2.1 p.2.2.1 = some a)
      (hL : YL k t (wrap32 (f + wrap32 (yN f t a q))) L) : YL k t f ((yN f t a q, yOf q) :: L)
theorem YL.one {k : Nat} {t f : Int} {L L' : List (Int × Int)} (h : YL k t f L) (h' : YL k t f L') : L = L' := by
  induction h generalizing L' with
  | done h => cases h' with
    | done => rfl
    | more h2 => exact absurd h2 h
  | more h hp hq ha hL ih => cases h' with
    | done h2 => exact absurd h h2
    | more h2 hp2 hq2 ha2 hL2 =>
      rw [hp] at hp2; cases hp2
      rw [hq] at hq2; cases hq2
      rw [ha] at ha2; cases ha2
      rw [ih hL2]
open Classical in
noncomputable def yLeft (k : Nat) (t : Int) (B : Nat) (W : World) : Nat := match W.cell? ⟨B, 0, none⟩ with
  | some (.int _ f) => if h : ∃ L, YL k t f L then (Classical.choose h).length else 0
  | _ => 0
theorem yLeft_eq {k : Nat} {t f : Int} {B : Nat} {W : World} {L : List (Int × Int)} (h : W.cell? ⟨B, 0, none⟩ = some (.int .i32 f)) (hL : YL k t f L) : yLeft k t B W = L.length := by
  unfold yLeft
  rw [h]
  have q : ∃ L, YL k t f L := ⟨L, hL⟩
  simp only [dif_pos q]
  rw [(Classical.choose_spec q).one hL]
def StY (B : Nat) (X Y : World) : Prop := Below X.heap.size X Y ∨ ∃ v, Y = X.setCell ⟨B, 0, none⟩ v
def KpY (n₀ B : Nat) (X Y : World) : Prop := Below n₀ X Y ∧ Y.heap[B]? = X.heap[B]? ∧ Y.heap[B + 1]? = X.heap[B + 1]?
theorem KpY.trans {n₀ B : Nat} {X Y Z : World} (h : KpY n₀ B X Y) (k : KpY n₀ B Y Z) : KpY n₀ B X Z := ⟨h.1.trans k.1, k.2.1.trans h.2.1, k.2.2.trans h.2.2⟩
theorem bx_of {W W' : World} {B : Nat} {t : TypeId} {v : Value} (h : Boxed W B t v) (e : W'.heap[B]? = W.heap[B]?) : Boxed W' B t v := e.trans h
theorem bx_below {W W' : World} {B : Nat} {t : TypeId} {v : Value} (h : Boxed W B t v) (k : Below W.heap.size W W') : Boxed W' B t v := bx_of h (k.block B h.lt)
structure YCalls (F : Fence) (w0 : World) (k : Nat) : Prop where
  fns : F.fn 42 ∧ F.fn 47 ∧ F.fn 48
  split : ∀ n W f p, Below w0.heap.size w0 W → date_Split.f k f = some p → CallsIn F n Tryd.prog 42 #[.int .i32 f] W fun e W' => e = .returned (.tuple #[.int .i64 p.1, .int .i64 p.2.1, .int .i64 p.2.2.1, .int .i64 p.2.2.2]) ∧ Below W.heap.size W W'
  leap : ∀ n W y q, Below w0.heap.size w0 W → date_Leap.f y = some q → CallsIn F n Tryd.prog 47 #[.int .i64 y] W fun e W' => e = .returned (.bool q) ∧ Below W.heap.size W W'
  ahead : ∀ n W y m d a, Below w0.heap.size w0 W → daycount_ahead.f k y m d = some a → CallsIn F n Tryd.prog 48 #[.int .i64 y, .int .i64 m, .int .i64 d] W fun e W' => e = .returned (.int .i64 a) ∧ Below W.heap.size W W'
set_option maxRecDepth 100000 in
set_option maxHeartbeats 4000000 in
theorem years_seq (F : Fence) (n : Nat) (h46 : F.fn 46) (hro : F.round = none) (hn : 1 ≤ n) (k : Nat) (w0 w : World) (B : Nat) (f0 t : Int) (L : List (Int × Int)) (hL : YL k t f0 L) (hC : YCalls F w0 k)
    (hw : Below w0.heap.size w0 w) (hB : w0.heap.size ≤ B) (b1 : Boxed w B 22 (.int .i32 f0)) (b2 : Boxed w (B + 1) 22 (.int .i32 t)) :
    SeqSt F n Tryd.prog 46 #[.pointer (some ⟨B, 0, none⟩), .pointer (some ⟨B + 1, 0, none⟩)] (fun x : Int × Int => #[.int .i64 x.1, .int .i64 x.2]) (StY B) (KpY w0.heap.size B) L w := fun l J W hW hJ hY h0 => by
  have hw' : Below w0.heap.size w0 W := hw.trans (hW.mono hw.size)
  have b1' := bx_below b1 hW
  have b2' := bx_below b2 hW
  refine callsIn_of_wp Tryd.func46 rfl h46 ?_ hro
  simp only [Tryd.ntmps46, List.size_toArray, List.length_cons, List.length_nil, Nat.reduceAdd, Nat.reduceSub, Array.replicate_succ, Array.replicate_zero, List.push_toArray, List.append_toArray, List.nil_append, List.cons_append]
  gi_wp2
  gi_loopw [] (fun wr => ∃ pre Lr fj, L = pre ++ Lr ∧ YL k t fj Lr ∧ J pre wr ∧ Below w0.heap.size w0 wr ∧ Boxed wr B 22 (.int .i32 fj) ∧ Boxed wr (B + 1) 22 (.int .i32 t))
    (fun wr => yLeft k t B wr)
  case atStart => exact ⟨[], L, f0, rfl, hL, h0, hw', b1', b2'⟩
  case round =>
    obtain ⟨pre, Lr, fj, eL, hLr, hJs, hb, c1, c2⟩ := hrel
    have k1 := c1.cell
    have k2 := c2.cell
    cases hLr with
    | done hlt =>
      have hd : decide (fj < t) = false := decide_eq_false hlt
      clear b1 b2 b1' b2'
      gi_wp2
      go_end0
      exact ⟨⟨_, rfl⟩, by simpa using hJs⟩
    | more hlt hp hq ha hL' =>
      rename_i p q a Lr'
      have hLf := YL.more hlt hp hq ha hL'
      have hLeft := yLeft_eq k1 hLf
      have hd : decide (fj < t) = true := decide_eq_true hlt
      obtain ⟨h42, h47, h48⟩ := hC.fns
      clear b1 b2 b1' b2' hL hw hLf h0 hw'
      have hLeft' := Lib.hid hLeft
      clear hLeft
      cases q
      · gi_wp2_with (first
          | (gi_at_call 42; refine (hC.split _ _ _ _ hb hp).mono ?_; rintro e w2 ⟨rfl, d2⟩; have hb2 := hb.trans (d2.mono hb.size); have c1_2 := bx_below c1 d2; have c2_2 := bx_below c2 d2; have k1_2 := c1_2.cell; have k2_2 := c2_2.cell; have J2 := hJ _ _ _ hJs (.inl d2))
          | (gi_at_call 47; refine (hC.leap _ _ _ _ hb2 hq).mono ?_; rintro e w3 ⟨rfl, d3⟩; have hb3 := hb2.trans (d3.mono hb2.size); have c1_3 := bx_below c1_2 d3; have c2_3 := bx_below c2_2 d3; have k1_3 := c1_3.cell; have k2_3 := c2_3.cell; have J3 := hJ _ _ _ J2 (.inl d3)))
        refine wpIn_mono (Q := fun e b w4 => e = .normal ∧ Below w3.drew.heap.size w3.drew w4 ∧ b = { tmps := #[.func (.yield l) #[] #[], .pointer (some ⟨B, 0, none⟩), .pointer (some ⟨B + 1, 0, none⟩), undef, .int .i64 p.1, .int .i64 p.2.1, .int .i64 p.2.2.1, .int .i64 p.2.2.2, .int .i64 365, .int .i32 (IntKind.wrap .i32 (fj - IntKind.wrap .i32 a)), u10, .int .i32 fj, .int .i32 t, .bool true, .tuple #[.int .i64 p.1, .int .i64 p.2.1, .int .i64 p.2.2.1, .int .i64 p.2.2.2], .int .i32 fj, .tuple #[.int .i64 p.1, .int .i64 p.2.1, .int .i64 p.2.2.1, .int .i64 p.2.2.2], .int .i64 p.1, .int .i64 p.2.1, .int .i64 p.2.2.1, .int .i64 p.2.2.2, .int .i64 p.1, .bool false, .int .i32 fj, .int .i64 p.1, .int .i64 p.2.1, .int .i64 p.2.2.1, .int .i64 a, .int .i32 (IntKind.wrap .i32 a), .int .i32 (IntKind.wrap .i32 (fj - IntKind.wrap .i32 a)), u30, u31, u32, u33, u34, u35, u36, u37, u38, u39, u40, u41, u42, u43, u44, u45, u46, u47, u48], defers := [] }) ?_ ?_
        · clear J3 J2 hJ hY hJs hL' d2 d3 k1 k2 c1 c2 c1_2 c2_2 k1_2 k2_2 hb hb2
          gi_region_with (gi_at_call 48; refine (hC.ahead _ _ _ _ _ _ hb3.drew ha).mono ?_; rintro e w4 ⟨rfl, d4⟩; have k1_4 := (bx_below (show Boxed w3.drew B 22 (.int .i32 fj) from c1_3) d4).cell)
          all_goals exact ⟨rfl, d4, rfl⟩
        rintro _ _ w4 ⟨rfl, d4, rfl⟩
        have hb4 := hb3.drew.trans (d4.mono hb3.drew.size)
        have c1_4 := bx_below (show Boxed w3.drew B 22 (.int .i32 fj) from c1_3) d4
        have c2_4 := bx_below (show Boxed w3.drew (B + 1) 22 (.int .i32 t) from c2_3) d4
        have k1_4 := c1_4.cell
        have k2_4 := c2_4.cell
        have J4 := hJ _ _ _ (hJ _ _ _ J3 (.inl (Below.refl _ w3).drew)) (.inl d4)
        clear J3 J2 hC hb hb2 hb3 c1 c2 c1_2 c2_2 c1_3 c2_3 k1 k2 k1_2 k2_2 k1_3 k2_3 d2 d3 d4
        rcases Int.lt_or_le (wrap64 (wrap64 (wrap32 (fj - wrap32 a)) + 365)) (wrap64 t) with hm | hm
        · skip
          obtain ⟨N, hN⟩ : ∃ N, N = wrap64 (wrap64 (wrap64 (wrap32 (fj - wrap32 a)) + 365) - wrap64 fj) := ⟨_, rfl⟩
          have e : yN fj t a false = N := by
            rw [hN]
            simp only [yN, yOf, Int.min_def, if_true, Bool.false_eq_true, if_false]
            rw [if_neg (by omega)]
          obtain ⟨fn, tmps, assign, body, hy, hR⟩ := hY pre _ Lr' w4 eL J4
          rw [e] at hL' hy hR
          simp only [yOf, if_true, Bool.false_eq_true, if_false] at hy hR
          rw [hN] at hy
          have e' := Lib.hid e
          have hN' := Lib.hid hN
          clear hY J4 e hN
          gi_wp2
          all_goals try (exfalso; omega)
          refine hR.mono ?_
          rintro e W3 ⟨rfl, hJ3, hk3⟩
          have c1_5 := bx_of c1_4 hk3.2.1
          have c2_5 := bx_of c2_4 hk3.2.2
          have k1_5 := c1_5.cell
          have k2_5 := c2_5.cell
          have f1_5 := c1_5.frozen
          gi_wp2
          go_roundw
          case rel => exact ⟨pre ++ [(N, 365)], Lr', _, by rw [eL, e'.out]; simp [yOf], hN'.out ▸ hL', hJ _ _ _ hJ3 (.inr ⟨_, rfl⟩), (hb4.trans hk3.1).setCell (p := ⟨B, 0, none⟩) hB _, c1_5.set _, bx_of c2_5 (Below.heap_setCell W3 ⟨B, 0, none⟩ _ (B + 1) (by show ¬ (B + 1 = B); omega))⟩
          case measure =>
            rw [hLeft'.out, yLeft_eq (c1_5.set _).cell (hN'.out ▸ hL')]
            simp
        · skip
          obtain ⟨N, hN⟩ : ∃ N, N = wrap64 (wrap64 t - wrap64 fj) := ⟨_, rfl⟩
          have e : yN fj t a false = N := by
            rw [hN]
            simp only [yN, yOf, Int.min_def, if_true, Bool.false_eq_true, if_false]
            rw [if_pos hm]
          obtain ⟨fn, tmps, assign, body, hy, hR⟩ := hY pre _ Lr' w4 eL J4
          rw [e] at hL' hy hR
          simp only [yOf, if_true, Bool.false_eq_true, if_false] at hy hR
          rw [hN] at hy
          have e' := Lib.hid e
          have hN' := Lib.hid hN
          clear hY J4 e hN
          gi_wp2
          all_goals try (exfalso; omega)
          refine hR.mono ?_
          rintro e W3 ⟨rfl, hJ3, hk3⟩
          have c1_5 := bx_of c1_4 hk3.2.1
          have c2_5 := bx_of c2_4 hk3.2.2
          have k1_5 := c1_5.cell
          have k2_5 := c2_5.cell
          have f1_5 := c1_5.frozen
          gi_wp2
          go_roundw
          case rel => exact ⟨pre ++ [(N, 365)], Lr', _, by rw [eL, e'.out]; simp [yOf], hN'.out ▸ hL', hJ _ _ _ hJ3 (.inr ⟨_, rfl⟩), (hb4.trans hk3.1).setCell (p := ⟨B, 0, none⟩) hB _, c1_5.set _, bx_of c2_5 (Below.heap_setCell W3 ⟨B, 0, none⟩ _ (B + 1) (by show ¬ (B + 1 = B); omega))⟩
          case measure =>
            rw [hLeft'.out, yLeft_eq (c1_5.set _).cell (hN'.out ▸ hL')]
            simp
      · gi_wp2_with (first
          | (gi_at_call 42; refine (hC.split _ _ _ _ hb hp).mono ?_; rintro e w2 ⟨rfl, d2⟩; have hb2 := hb.trans (d2.mono hb.size); have c1_2 := bx_below c1 d2; have c2_2 := bx_below c2 d2; have k1_2 := c1_2.cell; have k2_2 := c2_2.cell; have J2 := hJ _ _ _ hJs (.inl d2))
          | (gi_at_call 47; refine (hC.leap _ _ _ _ hb2 hq).mono ?_; rintro e w3 ⟨rfl, d3⟩; have hb3 := hb2.trans (d3.mono hb2.size); have c1_3 := bx_below c1_2 d3; have c2_3 := bx_below c2_2 d3; have k1_3 := c1_3.cell; have k2_3 := c2_3.cell; have J3 := hJ _ _ _ J2 (.inl d3)))
        refine wpIn_mono (Q := fun e b w4 => e = .normal ∧ Below w3.drew.heap.size w3.drew w4 ∧ b = { tmps := #[.func (.yield l) #[] #[], .pointer (some ⟨B, 0, none⟩), .pointer (some ⟨B + 1, 0, none⟩), undef, .int .i64 p.1, .int .i64 p.2.1, .int .i64 p.2.2.1, .int .i64 p.2.2.2, .int .i64 366, .int .i32 (IntKind.wrap .i32 (fj - IntKind.wrap .i32 a)), u10, .int .i32 fj, .int .i32 t, .bool true, .tuple #[.int .i64 p.1, .int .i64 p.2.1, .int .i64 p.2.2.1, .int .i64 p.2.2.2], .int .i32 fj, .tuple #[.int .i64 p.1, .int .i64 p.2.1, .int .i64 p.2.2.1, .int .i64 p.2.2.2], .int .i64 p.1, .int .i64 p.2.1, .int .i64 p.2.2.1, .int .i64 p.2.2.2, .int .i64 p.1, .bool true, .int .i32 fj, .int .i64 p.1, .int .i64 p.2.1, .int .i64 p.2.2.1, .int .i64 a, .int .i32 (IntKind.wrap .i32 a), .int .i32 (IntKind.wrap .i32 (fj - IntKind.wrap .i32 a)), u30, u31, u32, u33, u34, u35, u36, u37, u38, u39, u40, u41, u42, u43, u44, u45, u46, u47, u48], defers := [] }) ?_ ?_
        · clear J3 J2 hJ hY hJs hL' d2 d3 k1 k2 c1 c2 c1_2 c2_2 k1_2 k2_2 hb hb2
          gi_region_with (gi_at_call 48; refine (hC.ahead _ _ _ _ _ _ hb3.drew ha).mono ?_; rintro e w4 ⟨rfl, d4⟩; have k1_4 := (bx_below (show Boxed w3.drew B 22 (.int .i32 fj) from c1_3) d4).cell)
          all_goals exact ⟨rfl, d4, rfl⟩
        rintro _ _ w4 ⟨rfl, d4, rfl⟩
        have hb4 := hb3.drew.trans (d4.mono hb3.drew.size)
        have c1_4 := bx_below (show Boxed w3.drew B 22 (.int .i32 fj) from c1_3) d4
        have c2_4 := bx_below (show Boxed w3.drew (B + 1) 22 (.int .i32 t) from c2_3) d4
        have k1_4 := c1_4.cell
        have k2_4 := c2_4.cell
        have J4 := hJ _ _ _ (hJ _ _ _ J3 (.inl (Below.refl _ w3).drew)) (.inl d4)
        clear J3 J2 hC hb hb2 hb3 c1 c2 c1_2 c2_2 c1_3 c2_3 k1 k2 k1_2 k2_2 k1_3 k2_3 d2 d3 d4
        rcases Int.lt_or_le (wrap64 (wrap64 (wrap32 (fj - wrap32 a)) + 366)) (wrap64 t) with hm | hm
        · skip
          obtain ⟨N, hN⟩ : ∃ N, N = wrap64 (wrap64 (wrap64 (wrap32 (fj - wrap32 a)) + 366) - wrap64 fj) := ⟨_, rfl⟩
          have e : yN fj t a true = N := by
            rw [hN]
            simp only [yN, yOf, Int.min_def, if_true, Bool.false_eq_true, if_false]
            rw [if_neg (by omega)]
          obtain ⟨fn, tmps, assign, body, hy, hR⟩ := hY pre _ Lr' w4 eL J4
          rw [e] at hL' hy hR
          simp only [yOf, if_true, Bool.false_eq_true, if_false] at hy hR
          rw [hN] at hy
          have e' := Lib.hid e
          have hN' := Lib.hid hN
          clear hY J4 e hN
          gi_wp2
          all_goals try (exfalso; omega)
          refine hR.mono ?_
          rintro e W3 ⟨rfl, hJ3, hk3⟩
          have c1_5 := bx_of c1_4 hk3.2.1
          have c2_5 := bx_of c2_4 hk3.2.2
          have k1_5 := c1_5.cell
          have k2_5 := c2_5.cell
          have f1_5 := c1_5.frozen
          gi_wp2
          go_roundw
          case rel => exact ⟨pre ++ [(N, 366)], Lr', _, by rw [eL, e'.out]; simp [yOf], hN'.out ▸ hL', hJ _ _ _ hJ3 (.inr ⟨_, rfl⟩), (hb4.trans hk3.1).setCell (p := ⟨B, 0, none⟩) hB _, c1_5.set _, bx_of c2_5 (Below.heap_setCell W3 ⟨B, 0, none⟩ _ (B + 1) (by show ¬ (B + 1 = B); omega))⟩
          case measure =>
            rw [hLeft'.out, yLeft_eq (c1_5.set _).cell (hN'.out ▸ hL')]
            simp
        · skip
          obtain ⟨N, hN⟩ : ∃ N, N = wrap64 (wrap64 t - wrap64 fj) := ⟨_, rfl⟩
          have e : yN fj t a true = N := by
            rw [hN]
            simp only [yN, yOf, Int.min_def, if_true, Bool.false_eq_true, if_false]
            rw [if_pos hm]
          obtain ⟨fn, tmps, assign, body, hy, hR⟩ := hY pre _ Lr' w4 eL J4
          rw [e] at hL' hy hR
          simp only [yOf, if_true, Bool.false_eq_true, if_false] at hy hR
          rw [hN] at hy
          have e' := Lib.hid e
          have hN' := Lib.hid hN
          clear hY J4 e hN
          gi_wp2
          all_goals try (exfalso; omega)
          refine hR.mono ?_
          rintro e W3 ⟨rfl, hJ3, hk3⟩
          have c1_5 := bx_of c1_4 hk3.2.1
          have c2_5 := bx_of c2_4 hk3.2.2
          have k1_5 := c1_5.cell
          have k2_5 := c2_5.cell
          have f1_5 := c1_5.frozen
          gi_wp2
          go_roundw
          case rel => exact ⟨pre ++ [(N, 366)], Lr', _, by rw [eL, e'.out]; simp [yOf], hN'.out ▸ hL', hJ _ _ _ hJ3 (.inr ⟨_, rfl⟩), (hb4.trans hk3.1).setCell (p := ⟨B, 0, none⟩) hB _, c1_5.set _, bx_of c2_5 (Below.heap_setCell W3 ⟨B, 0, none⟩ _ (B + 1) (by show ¬ (B + 1 = B); omega))⟩
          case measure =>
            rw [hLeft'.out, yLeft_eq (c1_5.set _).cell (hN'.out ▸ hL')]
            simp
end Go.Proofs.YtjhljcnjafbkfaaDoor.X
