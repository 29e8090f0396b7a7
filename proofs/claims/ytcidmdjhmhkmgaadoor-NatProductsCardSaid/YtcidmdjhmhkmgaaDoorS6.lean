-- Printed by pp.py (wip/pp), a program of this session's, over the kit's print; Lean checks it.
import Derived.Test.YtcidmdjhmhkmgaaDoorS0
import Derived.Test.YtcidmdjhmhkmgaaDoorS1
import Derived.Test.YtcidmdjhmhkmgaaDoorS3
import Derived.Test.YtcidmdjhmhkmgaaDoorS5
namespace Go.Proofs.YtcidmdjhmhkmgaaDoor.S
open Go.RowKit Go.Proofs.YtcidmdjhmhkmgaaDoorW.PrintWords Go.Proofs.YtcidmdjhmhkmgaaDoorW.PrintLast Go.Proofs.YtcidmdjhmhkmgaaDoorW.PrintMore
attribute [local go_sem] max2_int min2_int max_two min_two max_three min_three max_four min_four   -- for this text's walks alone
set_option linter.unusedVariables false
set_option linter.unusedSimpArgs false

/-! ### nat_DivMod: function 22 -/
def nat_DivMod.j0 : Nat → List Int → List Int → Bool → Option (List Int × List Int × Int)
  | 0, _, _, _ => none
  | k + 1, x0, x1, x9 => if x9 = true then (some (([] : List Int), ([] : List Int), 1)) else (if (x1.length : Int) = 0 then (some (([] : List Int), ([] : List Int), 10)) else ((nat_divmod.f k x0 x1).bind fun bt234 => (some (bt234.1, bt234.2, 0))))
def nat_DivMod.f (k : Nat) (l0 : List Int) (l1 : List Int) : Option (List Int × List Int × Int) := (nat_Right.f l0).bind fun t232 => (if t232 = true then ((nat_Right.f l1).bind fun t233 => (nat_DivMod.j0 k l0 l1 (!t233))) else (nat_DivMod.j0 k l0 l1 true))
theorem nat_DivMod.mono_l : ∀ k, (∀ y0 y1 y2, LeO (nat_DivMod.j0 k y0 y1 y2) (nat_DivMod.j0 (k + 1) y0 y1 y2))
  | 0 => fun _ _ _ r h => by simp [nat_DivMod.j0] at h
  | k + 1 => by
    have ih0 := nat_DivMod.mono_l k
    · intro y0 y1 y2
      unfold nat_DivMod.j0
      repeat' first
      | (with_reducible exact ih0 _ _ _)
      | (with_reducible exact nat_divmod.mono _ _ _)
      | (with_reducible exact LeO.refl _)
      | (with_reducible exact LeO.none _)
      | (with_reducible refine LeO.ite ?_ ?_)
      | (with_reducible refine LeO.bind ?_ (fun _ => ?_))
      | exact ih0 _ _ _
      | exact nat_divmod.mono _ _ _
      | exact LeO.none _
      | refine LeO.ite ?_ ?_
      | refine LeO.bind ?_ (fun _ => ?_)
theorem nat_DivMod.mono : ∀ a0 a1 k, LeO (nat_DivMod.f k a0 a1) (nat_DivMod.f (k + 1) a0 a1) := by
  intro a0 a1 k
  have ih0 := nat_DivMod.mono_l k
  unfold nat_DivMod.f
  repeat' first
      | (with_reducible exact ih0 _ _ _)
      | (with_reducible exact nat_divmod.mono _ _ _)
      | (with_reducible exact LeO.refl _)
      | (with_reducible exact LeO.none _)
      | (with_reducible refine LeO.ite ?_ ?_)
      | (with_reducible refine LeO.bind ?_ (fun _ => ?_))
      | exact ih0 _ _ _
      | exact nat_divmod.mono _ _ _
      | exact LeO.none _
      | refine LeO.ite ?_ ?_
      | refine LeO.bind ?_ (fun _ => ?_)
set_option maxHeartbeats 8000000 in
set_option maxRecDepth 100000 in
theorem nat_DivMod.calls (k : Nat) (A0 : Option Addr) (c0 : Nat) (l0 : List Int) (A1 : Option Addr) (c1 : Nat) (l1 : List Int) (r1 : List Int) (r2 : List Int) (r3 : Int) (w : World) (hr0 : Kd.C (Kd.int .u32) w A0 l0.length l0) (hc0 : l0.length ≤ c0) (hr1 : Kd.C (Kd.int .u32) w A1 l1.length l1) (hc1 : l1.length ≤ c1) (h : nat_DivMod.f k l0 l1 = some (r1, r2, r3)) :
    Calls Tryd.prog 22 #[.slice A0 l0.length c0, .slice A1 l1.length c1] w fun e w' => ∃ v0_ v1_ : Value, e = .returned (.tuple #[v0_, v1_, .int .i64 r3]) ∧ Kd.V (Kd.int .u32) 56 w' w.heap.size (fun k_ => (w.heap.size ≤ k_)) v0_ r1 ∧ Kd.V (Kd.int .u32) 56 w' w.heap.size (fun k_ => (w.heap.size ≤ k_)) v1_ r2 ∧ Below w.heap.size w w' := by
  have HR0 := Aside0.mk hr0
  have HC0 := Aside0.mk hc0
  clear hr0 hc0
  have HR1 := Aside0.mk hr1
  have HC1 := Aside0.mk hc1
  clear hr1 hc1
  have HB := Aside0.mk (Below.refl w.heap.size w)
  have H : ((nat_Right.f l0).bind fun t232 => (if t232 = true then ((nat_Right.f l1).bind fun t233 => (nat_DivMod.j0 k l0 l1 (!t233))) else (nat_DivMod.j0 k l0 l1 true))) = some (r1, r2, r3) := h
  clear h
  have HC3 := Aside0.mk H
  clear H
  go_enter Tryd.func22, Tryd.ntmps22
  go_upto_region 1 with (fail)
  go_cut [9] (fun v9 wc => ∃ (kq : Nat) (x9_2 : Bool), v9 = .bool x9_2 ∧ Aside0 (nat_DivMod.j0 kq l0 l1 x9_2 = some (r1, r2, r3)) ∧ Aside0 (kq ≤ k) ∧ Aside0 (Below w.heap.size w wc))
  case first =>
    have H := HC3.out
    clear HC3
    replace H := Option.bind_eq_some_iff.mp H
    obtain ⟨t232, A40, H⟩ := H
    replace H : (if t232 = true then ((nat_Right.f l1).bind fun t233 => (nat_DivMod.j0 k l0 l1 (!t233))) else (nat_DivMod.j0 k l0 l1 true)) = some (r1, r2, r3) := H
    have A4 := Aside0.mk A40
    clear A40
    by_cases c5 : t232 = true
    · subst c5
      have H1 : ((nat_Right.f l1).bind fun t233 => (nat_DivMod.j0 k l0 l1 (!t233))) = some (r1, r2, r3) := by rw [if_pos rfl] at H; exact H
      clear H
      have H := H1
      clear H1
      replace H := Option.bind_eq_some_iff.mp H
      obtain ⟨t233, A60, H⟩ := H
      replace H : (nat_DivMod.j0 k l0 l1 (!t233)) = some (r1, r2, r3) := H
      have A6 := Aside0.mk A60
      clear A60
      have H' := Aside0.mk H
      clear H
      go_wp2_with (first | ((with_reducible refine gate_callee (f := 32) rfl ?_); refine goesL_ (some 11) rfl rfl Tryd.func32 (by kernel_rfl) rfl #[.slice A0 l0.length c0] rfl (by (try simp only [List.map_toArray, List.map_cons, List.map_nil]); first | done | rfl | (simp only [List.length_drop, List.length_take]; rfl)) ?_; (with_reducible refine (nat_Right.calls _ _ l0 true _ ?side1 ?side2 A4.out).mono ?_); (case side1 => repeat (first | exact (Kd.C_below HR0.out HB.out) | (with_reducible refine Kd.C_alloc ?_ _) | (with_reducible refine Kd.C_drewN ?_ _) | (with_reducible refine Kd.C_drew ?_))); (case side2 => exact HC0.out); rintro e w' ⟨rfl, ⟨nd, rfl⟩⟩; refine ⟨_, rfl, ?_⟩) | (go_at_call 32; (with_reducible refine (nat_Right.calls _ _ l1 t233 _ ?side1 ?side2 A6.out).mono ?_); (case side1 => repeat (first | exact (Kd.C_below HR1.out (by repeat (first | (with_reducible first | exact HB.out | apply below_alloc | apply pw_below_drewN | apply below_drew1) | exact HB.out))) | (with_reducible refine Kd.C_alloc ?_ _) | (with_reducible refine Kd.C_drewN ?_ _) | (with_reducible refine Kd.C_drew ?_))); (case side2 => exact HC1.out); rintro e w' ⟨rfl, ⟨nd, rfl⟩⟩))
      go_meet
      case rel => exact ⟨_, (!t233), (by first | rfl | (simp; done) | (simp [*]; done)), H', ⟨by first | omega | exact Nat.le_refl _⟩, ⟨by repeat (first | (with_reducible first | exact HB.out | apply below_alloc | apply pw_below_drewN | apply below_drew1) | exact HB.out)⟩⟩
    · replace c5 := Bool.eq_false_iff.mpr c5
      subst c5
      have H1 : (nat_DivMod.j0 k l0 l1 true) = some (r1, r2, r3) := by rw [if_neg (show ¬ (false = true) by decide)] at H; exact H
      clear H
      have H := H1
      clear H1
      have H' := Aside0.mk H
      clear H
      go_wp2_with (first | ((with_reducible refine gate_callee (f := 32) rfl ?_); refine goesL_ (some 11) rfl rfl Tryd.func32 (by kernel_rfl) rfl #[.slice A0 l0.length c0] rfl (by (try simp only [List.map_toArray, List.map_cons, List.map_nil]); first | done | rfl | (simp only [List.length_drop, List.length_take]; rfl)) ?_; (with_reducible refine (nat_Right.calls _ _ l0 false _ ?side1 ?side2 A4.out).mono ?_); (case side1 => repeat (first | exact (Kd.C_below HR0.out HB.out) | (with_reducible refine Kd.C_alloc ?_ _) | (with_reducible refine Kd.C_drewN ?_ _) | (with_reducible refine Kd.C_drew ?_))); (case side2 => exact HC0.out); rintro e w' ⟨rfl, ⟨nd, rfl⟩⟩; refine ⟨_, rfl, ?_⟩))
      go_meet
      case rel => exact ⟨_, (true), (by first | rfl | (simp; done) | (simp [*]; done)), H', ⟨by first | omega | exact Nat.le_refl _⟩, ⟨by repeat (first | (with_reducible first | exact HB.out | apply below_alloc | apply pw_below_drewN | apply below_drew1) | exact HB.out)⟩⟩
  case rest =>
    clear HC3
    try clear c1
    try clear c2
    try clear p2
    try clear c3
    try clear c5
    obtain ⟨kq, x9_2, rfl, HA, HJ2, HB⟩ := hcut
    cases kq with
    | zero => exact absurd HA.out (by simp [nat_DivMod.j0])
    | succ kj2 =>
      have H := HA.out
      clear HA
      simp only [nat_DivMod.j0] at H
      by_cases c7 : x9_2 = true
      · subst c7
        have H1 : (some (([] : List Int), ([] : List Int), 1)) = some (r1, r2, r3) := by rw [if_pos rfl] at H; exact H
        clear H
        have H := H1
        clear H1
        simp only [Option.some.injEq, Prod.mk.injEq] at H
        obtain ⟨rfl, rfl, rfl⟩ := H
        go_wp2
        go_ret3
        exact ⟨_, _, by first | rfl | (simp [errW_none, errW_some] <;> rfl) | (simp [*, errW_none, errW_some] <;> rfl), Kd.V_nil _ _ _ _ _, Kd.V_nil _ _ _ _ _, by repeat (first | (with_reducible first | exact HB.out | apply below_alloc | apply pw_below_drewN | apply below_drew1) | exact HB.out)⟩
      · replace c7 := Bool.eq_false_iff.mpr c7
        subst c7
        have H1 : (if (l1.length : Int) = 0 then (some (([] : List Int), ([] : List Int), 10)) else ((nat_divmod.f kj2 l0 l1).bind fun bt234 => (some (bt234.1, bt234.2, 0)))) = some (r1, r2, r3) := by rw [if_neg (show ¬ (false = true) by decide)] at H; exact H
        clear H
        have H := H1
        clear H1
        by_cases c8 : (l1.length : Int) = 0
        · rw [if_pos c8] at H
          have c8b0 : ((l1.length : Int) == 0) = true := beq_iff_eq.mpr c8
          have c8b1 : ((l1.length : Int) != 0) = false := bne_eq_false_iff_eq.mpr c8
          clear c8
          simp only [Option.some.injEq, Prod.mk.injEq] at H
          obtain ⟨rfl, rfl, rfl⟩ := H
          go_wp2
          go_ret3
          exact ⟨_, _, by first | rfl | (simp [errW_none, errW_some] <;> rfl) | (simp [*, errW_none, errW_some] <;> rfl), Kd.V_nil _ _ _ _ _, Kd.V_nil _ _ _ _ _, by repeat (first | (with_reducible first | exact HB.out | apply below_alloc | apply pw_below_drewN | apply below_drew1) | exact HB.out)⟩
        · rw [if_neg c8] at H
          have c8b0 : ((l1.length : Int) == 0) = false := beq_eq_false_iff_ne.mpr c8
          have c8b1 : ((l1.length : Int) != 0) = true := bne_iff_ne.mpr c8
          have c8b2 : ¬ (l1 = []) := fun h_ => c8 (by rw [h_]; rfl)
          replace H := Option.bind_eq_some_iff.mp H
          obtain ⟨⟨t234, t237⟩, A90, H⟩ := H
          replace H : (some (t234, t237, 0)) = some (r1, r2, r3) := H
          have A9 := Aside0.mk A90
          clear A90
          simp only [Option.some.injEq, Prod.mk.injEq] at H
          obtain ⟨rfl, rfl, rfl⟩ := H
          go_wp2_with (first | ((with_reducible refine gate_callee (f := 52) rfl ?_); refine goesL_ (some 25) rfl rfl Tryd.func52 (by kernel_rfl) rfl #[.slice A0 l0.length c0, .slice A1 l1.length c1] rfl (by (try simp only [List.map_toArray, List.map_cons, List.map_nil]); first | done | rfl | (simp only [List.length_drop, List.length_take]; rfl)) ?_; (with_reducible refine (nat_divmod.calls kj2 _ _ l0 _ _ l1 t234 t237 _ ?side1 ?side2 ?side3 ?side4 A9.out).mono ?_); (case side1 => repeat (first | exact (Kd.C_below HR0.out HB.out) | (with_reducible refine Kd.C_alloc ?_ _) | (with_reducible refine Kd.C_drewN ?_ _) | (with_reducible refine Kd.C_drew ?_))); (case side2 => exact HC0.out); (case side3 => repeat (first | exact (Kd.C_below HR1.out HB.out) | (with_reducible refine Kd.C_alloc ?_ _) | (with_reducible refine Kd.C_drewN ?_ _) | (with_reducible refine Kd.C_drew ?_))); (case side4 => exact HC1.out); rintro e w10 ⟨v235, v238, rfl, ho0, ho1, hb⟩; refine ⟨_, rfl, ?_⟩; have n0_ := Aside0.mk (Kd.V_lower (Kd.V_mono (ok' := fun k_ => (w.heap.size ≤ k_)) ho0 (fun k_ hk_ => (Nat.le_trans (below_size (by repeat (first | (with_reducible first | exact HB.out | apply below_alloc | apply pw_below_drewN | apply below_drew1) | exact HB.out))) hk_))) (below_size (by repeat (first | (with_reducible first | exact HB.out | apply below_alloc | apply pw_below_drewN | apply below_drew1) | exact HB.out)))); have n1_ := Aside0.mk (Kd.V_lower (Kd.V_mono (ok' := fun k_ => (w.heap.size ≤ k_)) ho1 (fun k_ hk_ => (Nat.le_trans (below_size (by repeat (first | (with_reducible first | exact HB.out | apply below_alloc | apply pw_below_drewN | apply below_drew1) | exact HB.out))) hk_))) (below_size (by repeat (first | (with_reducible first | exact HB.out | apply below_alloc | apply pw_below_drewN | apply below_drew1) | exact HB.out)))); have n2_ := Aside0.mk (below_step (by repeat (first | (with_reducible first | exact HB.out | apply below_alloc | apply pw_below_drewN | apply below_drew1) | exact HB.out)) hb); clear HB; have HO236 := n0_; have HO239 := n1_; have HB := n2_; clear n0_ n1_ n2_; (try clear hb); (try clear hb2); (try clear hk); (try clear hi); (try clear ho0); (try clear ho1)))
          go_ret3
          exact ⟨_, _, by first | rfl | (simp [errW_none, errW_some] <;> rfl) | (simp [*, errW_none, errW_some] <;> rfl), by (with_reducible repeat (first | apply Kd.V_alloc | apply Kd.V_drewN | apply Kd.V_drew)); exact HO236.out, by (with_reducible repeat (first | apply Kd.V_alloc | apply Kd.V_drewN | apply Kd.V_drew)); exact HO239.out, by repeat (first | (with_reducible first | exact HB.out | apply below_alloc | apply pw_below_drewN | apply below_drew1) | exact HB.out)⟩

/-! ### nat_Gcd: function 24 -/
mutual
def nat_Gcd.j0 : Nat → List Int → List Int → Bool → Option (List Int × Int)
  | 0, _, _, _ => none
  | k + 1, x0, x1, x15 => if x15 = true then (some (([] : List Int), 1)) else (nat_Gcd.l0 k x0 x1)
def nat_Gcd.l0 : Nat → List Int → List Int → Option (List Int × Int)
  | 0, _, _ => none
  | k + 1, x0, x1 => if (x1.length : Int) > 0 then ((nat_divmod.f k x0 x1).bind fun bt242 => (nat_Gcd.l0 k x1 bt242.2)) else ((api_Nat_uint32_55.f x0).bind fun t248 => (some (t248, 0)))
end
def nat_Gcd.f (k : Nat) (l0 : List Int) (l1 : List Int) : Option (List Int × Int) := (nat_Right.f l0).bind fun t240 => (if t240 = true then ((nat_Right.f l1).bind fun t241 => (nat_Gcd.j0 k l0 l1 (!t241))) else (nat_Gcd.j0 k l0 l1 true))
theorem nat_Gcd.mono_l : ∀ k, (∀ y0 y1 y2, LeO (nat_Gcd.j0 k y0 y1 y2) (nat_Gcd.j0 (k + 1) y0 y1 y2)) ∧ (∀ y0 y1, LeO (nat_Gcd.l0 k y0 y1) (nat_Gcd.l0 (k + 1) y0 y1))
  | 0 => ⟨fun _ _ _ r h => by simp [nat_Gcd.j0] at h, fun _ _ r h => by simp [nat_Gcd.l0] at h⟩
  | k + 1 => by
    obtain ⟨ih0, ih1⟩ := nat_Gcd.mono_l k
    refine ⟨?_, ?_⟩
    · intro y0 y1 y2
      unfold nat_Gcd.j0
      repeat' first
      | (with_reducible exact ih0 _ _ _)
      | (with_reducible exact ih1 _ _)
      | (with_reducible exact nat_divmod.mono _ _ _)
      | (with_reducible exact LeO.refl _)
      | (with_reducible exact LeO.none _)
      | (with_reducible refine LeO.ite ?_ ?_)
      | (with_reducible refine LeO.bind ?_ (fun _ => ?_))
      | exact ih0 _ _ _
      | exact ih1 _ _
      | exact nat_divmod.mono _ _ _
      | exact LeO.none _
      | refine LeO.ite ?_ ?_
      | refine LeO.bind ?_ (fun _ => ?_)
    · intro y0 y1
      unfold nat_Gcd.l0
      repeat' first
      | (with_reducible exact ih0 _ _ _)
      | (with_reducible exact ih1 _ _)
      | (with_reducible exact nat_divmod.mono _ _ _)
      | (with_reducible exact LeO.refl _)
      | (with_reducible exact LeO.none _)
      | (with_reducible refine LeO.ite ?_ ?_)
      | (with_reducible refine LeO.bind ?_ (fun _ => ?_))
      | exact ih0 _ _ _
      | exact ih1 _ _
      | exact nat_divmod.mono _ _ _
      | exact LeO.none _
      | refine LeO.ite ?_ ?_
      | refine LeO.bind ?_ (fun _ => ?_)
theorem nat_Gcd.mono : ∀ a0 a1 k, LeO (nat_Gcd.f k a0 a1) (nat_Gcd.f (k + 1) a0 a1) := by
  intro a0 a1 k
  obtain ⟨ih0, ih1⟩ := nat_Gcd.mono_l k
  unfold nat_Gcd.f
  repeat' first
      | (with_reducible exact ih0 _ _ _)
      | (with_reducible exact ih1 _ _)
      | (with_reducible exact nat_divmod.mono _ _ _)
      | (with_reducible exact LeO.refl _)
      | (with_reducible exact LeO.none _)
      | (with_reducible refine LeO.ite ?_ ?_)
      | (with_reducible refine LeO.bind ?_ (fun _ => ?_))
      | exact ih0 _ _ _
      | exact ih1 _ _
      | exact nat_divmod.mono _ _ _
      | exact LeO.none _
      | refine LeO.ite ?_ ?_
      | refine LeO.bind ?_ (fun _ => ?_)
set_option maxHeartbeats 8000000 in
set_option maxRecDepth 100000 in
theorem nat_Gcd.calls (k : Nat) (P0_ : Nat → Prop) (A0 : Option Addr) (c0 : Nat) (l0 : List Int) (P1_ : Nat → Prop) (A1 : Option Addr) (c1 : Nat) (l1 : List Int) (r1 : List Int) (r2 : Int) (w : World) (hs0 : Kd.V (Kd.int .u32) 56 w w.heap.size (fun k_ => P0_ k_) (.slice A0 l0.length c0) l0) (hs1 : Kd.V (Kd.int .u32) 56 w w.heap.size (fun k_ => P1_ k_) (.slice A1 l1.length c1) l1) (h : nat_Gcd.f k l0 l1 = some (r1, r2)) :
    Calls Tryd.prog 24 #[.slice A0 l0.length c0, .slice A1 l1.length c1] w fun e w' => ∃ v0_ : Value, e = .returned (.tuple #[v0_, .int .i64 r2]) ∧ Kd.R (Kd.int .u32) 56 w' w.heap.size (fun k_ => (w.heap.size ≤ k_)) v0_ r1 ∧ Below w.heap.size w w' := by
  have HO0 := Aside0.mk (show Kd.V (Kd.int .u32) 56 w w.heap.size (fun k_ => ((P0_ k_ ∨ P1_ k_) ∨ w.heap.size ≤ k_)) (.slice A0 l0.length c0) l0 from Kd.V_mono hs0 (fun k_ hk => .inl (.inl hk)))
  have HO1 := Aside0.mk (show Kd.V (Kd.int .u32) 56 w w.heap.size (fun k_ => ((P0_ k_ ∨ P1_ k_) ∨ w.heap.size ≤ k_)) (.slice A1 l1.length c1) l1 from Kd.V_mono hs1 (fun k_ hk => .inl (.inr hk)))
  have HB := Aside0.mk (Below.refl w.heap.size w)
  have H : ((nat_Right.f l0).bind fun t240 => (if t240 = true then ((nat_Right.f l1).bind fun t241 => (nat_Gcd.j0 k l0 l1 (!t241))) else (nat_Gcd.j0 k l0 l1 true))) = some (r1, r2) := h
  clear h
  have HC3 := Aside0.mk H
  clear H
  go_enter Tryd.func24, Tryd.ntmps24
  go_upto_region 1 with (fail)
  go_cut [15] (fun v15 wc => ∃ (kq : Nat) (x15_2 : Bool), v15 = .bool x15_2 ∧ Aside0 (nat_Gcd.j0 kq l0 l1 x15_2 = some (r1, r2)) ∧ Aside0 (kq ≤ k) ∧ Aside0 (Kd.V (Kd.int .u32) 56 wc w.heap.size (fun k_ => ((P0_ k_ ∨ P1_ k_) ∨ w.heap.size ≤ k_)) (.slice A0 l0.length c0) l0) ∧ Aside0 (Kd.V (Kd.int .u32) 56 wc w.heap.size (fun k_ => ((P0_ k_ ∨ P1_ k_) ∨ w.heap.size ≤ k_)) (.slice A1 l1.length c1) l1) ∧ Aside0 (Below w.heap.size w wc))
  case first =>
    have H := HC3.out
    clear HC3
    replace H := Option.bind_eq_some_iff.mp H
    obtain ⟨t240, A40, H⟩ := H
    replace H : (if t240 = true then ((nat_Right.f l1).bind fun t241 => (nat_Gcd.j0 k l0 l1 (!t241))) else (nat_Gcd.j0 k l0 l1 true)) = some (r1, r2) := H
    have A4 := Aside0.mk A40
    clear A40
    by_cases c5 : t240 = true
    · subst c5
      have H1 : ((nat_Right.f l1).bind fun t241 => (nat_Gcd.j0 k l0 l1 (!t241))) = some (r1, r2) := by rw [if_pos rfl] at H; exact H
      clear H
      have H := H1
      clear H1
      replace H := Option.bind_eq_some_iff.mp H
      obtain ⟨t241, A60, H⟩ := H
      replace H : (nat_Gcd.j0 k l0 l1 (!t241)) = some (r1, r2) := H
      have A6 := Aside0.mk A60
      clear A60
      have H' := Aside0.mk H
      clear H
      go_wp2_with (first | ((with_reducible refine gate_callee (f := 32) rfl ?_); refine goesL_ (some 9) rfl rfl Tryd.func32 (by kernel_rfl) rfl #[.slice A0 l0.length c0] rfl (by (try simp only [List.map_toArray, List.map_cons, List.map_nil]); first | done | rfl | (simp only [List.length_drop, List.length_take]; rfl)) ?_; (with_reducible refine (nat_Right.calls _ _ l0 true _ ?side1 ?side2 A4.out).mono ?_); (case side1 => repeat (first | exact (Kd.V_reads' HO0.out).2.2 | (with_reducible refine Kd.C_alloc ?_ _) | (with_reducible refine Kd.C_drewN ?_ _) | (with_reducible refine Kd.C_drew ?_))); (case side2 => exact (Kd.V_reads' HO0.out).2.1); rintro e w' ⟨rfl, ⟨nd, rfl⟩⟩; refine ⟨_, rfl, ?_⟩) | (go_at_call 32; (with_reducible refine (nat_Right.calls _ _ l1 t241 _ ?side1 ?side2 A6.out).mono ?_); (case side1 => repeat (first | exact (Kd.V_reads' HO1.out).2.2 | (with_reducible refine Kd.C_alloc ?_ _) | (with_reducible refine Kd.C_drewN ?_ _) | (with_reducible refine Kd.C_drew ?_))); (case side2 => exact (Kd.V_reads' HO1.out).2.1); rintro e w' ⟨rfl, ⟨nd, rfl⟩⟩))
      go_meet
      case rel => exact ⟨_, (!t241), (by first | rfl | (simp; done) | (simp [*]; done)), H', ⟨by first | omega | exact Nat.le_refl _⟩, ⟨by (with_reducible repeat (first | apply Kd.V_alloc | apply Kd.V_drewN | apply Kd.V_drew)); exact HO0.out⟩, ⟨by (with_reducible repeat (first | apply Kd.V_alloc | apply Kd.V_drewN | apply Kd.V_drew)); exact HO1.out⟩, ⟨by repeat (first | (with_reducible first | exact HB.out | apply below_alloc | apply pw_below_drewN | apply below_drew1) | exact HB.out)⟩⟩
    · replace c5 := Bool.eq_false_iff.mpr c5
      subst c5
      have H1 : (nat_Gcd.j0 k l0 l1 true) = some (r1, r2) := by rw [if_neg (show ¬ (false = true) by decide)] at H; exact H
      clear H
      have H := H1
      clear H1
      have H' := Aside0.mk H
      clear H
      go_wp2_with (first | ((with_reducible refine gate_callee (f := 32) rfl ?_); refine goesL_ (some 9) rfl rfl Tryd.func32 (by kernel_rfl) rfl #[.slice A0 l0.length c0] rfl (by (try simp only [List.map_toArray, List.map_cons, List.map_nil]); first | done | rfl | (simp only [List.length_drop, List.length_take]; rfl)) ?_; (with_reducible refine (nat_Right.calls _ _ l0 false _ ?side1 ?side2 A4.out).mono ?_); (case side1 => repeat (first | exact (Kd.V_reads' HO0.out).2.2 | (with_reducible refine Kd.C_alloc ?_ _) | (with_reducible refine Kd.C_drewN ?_ _) | (with_reducible refine Kd.C_drew ?_))); (case side2 => exact (Kd.V_reads' HO0.out).2.1); rintro e w' ⟨rfl, ⟨nd, rfl⟩⟩; refine ⟨_, rfl, ?_⟩))
      go_meet
      case rel => exact ⟨_, (true), (by first | rfl | (simp; done) | (simp [*]; done)), H', ⟨by first | omega | exact Nat.le_refl _⟩, ⟨by (with_reducible repeat (first | apply Kd.V_alloc | apply Kd.V_drewN | apply Kd.V_drew)); exact HO0.out⟩, ⟨by (with_reducible repeat (first | apply Kd.V_alloc | apply Kd.V_drewN | apply Kd.V_drew)); exact HO1.out⟩, ⟨by repeat (first | (with_reducible first | exact HB.out | apply below_alloc | apply pw_below_drewN | apply below_drew1) | exact HB.out)⟩⟩
  case rest =>
    clear HC3
    try clear c1
    try clear c2
    try clear p2
    try clear c3
    try clear c5
    obtain ⟨kq, x15_2, rfl, HA, HJ2, HO_0, HO_1, HB⟩ := hcut
    cases kq with
    | zero => exact absurd HA.out (by simp [nat_Gcd.j0])
    | succ kj2 =>
      have H := HA.out
      clear HA
      simp only [nat_Gcd.j0] at H
      by_cases c7 : x15_2 = true
      · subst c7
        have H1 : (some (([] : List Int), 1)) = some (r1, r2) := by rw [if_pos rfl] at H; exact H
        clear H
        have H := H1
        clear H1
        simp only [Option.some.injEq, Prod.mk.injEq] at H
        obtain ⟨rfl, rfl⟩ := H
        go_wp2
        go_ret2
        exact ⟨_, by first | rfl | (simp [errW_none, errW_some] <;> rfl) | (simp [*, errW_none, errW_some] <;> rfl), by first | exact Kd.R_nil _ _ _ _ _ | exact Kd.N_nil _ _ _ _ _ | exact Kd.V_nil _ _ _ _ _ | exact Kd.Q_nil _ _ _ _ _ | exact Kd.S_nil _ _ _ _ _, by repeat (first | (with_reducible first | exact HB.out | apply below_alloc | apply pw_below_drewN | apply below_drew1) | exact HB.out)⟩
      · replace c7 := Bool.eq_false_iff.mpr c7
        subst c7
        have H1 : (nat_Gcd.l0 kj2 l0 l1) = some (r1, r2) := by rw [if_neg (show ¬ (false = true) by decide)] at H; exact H
        clear H
        have H := H1
        clear H1
        have H' := Aside0.mk H
        clear H
        go_wp2
        go_loopg [0, 1] kj2 (fun kq v0 v1 w' => ∃ (x0_2 : List Int) (x1_2 : List Int), Aside0 (nat_Gcd.l0 kq x0_2 x1_2 = some (r1, r2)) ∧ Aside0 (kq ≤ kj2) ∧ Aside0 (Kd.V (Kd.int .u32) 56 w' w.heap.size (fun k_ => ((P0_ k_ ∨ P1_ k_) ∨ w.heap.size ≤ k_)) v0 x0_2) ∧ Aside0 (Kd.V (Kd.int .u32) 56 w' w.heap.size (fun k_ => ((P0_ k_ ∨ P1_ k_) ∨ w.heap.size ≤ k_)) v1 x1_2) ∧ Aside0 (Below w.heap.size w w'))
        case atStart => exact ⟨(l0), (l1), H', ⟨Nat.le_refl _⟩, ⟨by (with_reducible repeat (first | apply Kd.V_alloc | apply Kd.V_drewN | apply Kd.V_drew)); exact HO_0.out⟩, ⟨by (with_reducible repeat (first | apply Kd.V_alloc | apply Kd.V_drewN | apply Kd.V_drew)); exact HO_1.out⟩, ⟨by repeat (first | (with_reducible first | exact HB.out | apply below_alloc | apply pw_below_drewN | apply below_drew1) | exact HB.out)⟩⟩
        case round =>
          clear H'
          try clear c1
          try clear c2
          try clear p2
          try clear c3
          try clear c5
          try clear c7
          try clear p2
          obtain ⟨x0_2, x1_2, HA, HK2, HO_0, HO_1, HB⟩ := hrel
          cases gk with
          | zero => exact absurd HA.out (by simp [nat_Gcd.l0])
          | succ k2 =>
            have H := HA.out
            clear HA
            simp only [nat_Gcd.l0] at H
            by_cases c8 : (x1_2.length : Int) > 0
            · rw [if_pos c8] at H
              have c8b0 : decide (0 < (x1_2.length : Int)) = true := decide_eq_true c8
              have c8b1 : decide (0 < x1_2.length) = true := decide_eq_true (by omega)
              clear c8
              replace H := Option.bind_eq_some_iff.mp H
              obtain ⟨⟨t242, t245⟩, A90, H⟩ := H
              replace H : (nat_Gcd.l0 k2 x1_2 t245) = some (r1, r2) := H
              have A9 := Aside0.mk A90
              clear A90
              have H' := Aside0.mk H
              clear H
              obtain ⟨Ao10, co10, eo10⟩ := Kd.V_slice HO_1.out
              subst eo10
              obtain ⟨Ao11, co11, eo11⟩ := Kd.V_slice HO_0.out
              subst eo11
              go_wp2_with (first | ((with_reducible refine gate_callee (f := 52) rfl ?_); refine goesL_ (some 22) rfl rfl Tryd.func52 (by kernel_rfl) rfl #[.slice Ao11 x0_2.length co11, .slice Ao10 x1_2.length co10] rfl (by (try simp only [List.map_toArray, List.map_cons, List.map_nil]); first | done | rfl | (simp only [List.length_drop, List.length_take]; rfl)) ?_; (with_reducible refine (nat_divmod.calls k2 _ _ x0_2 _ _ x1_2 t242 t245 _ ?side1 ?side2 ?side3 ?side4 A9.out).mono ?_); (case side1 => repeat (first | exact (Kd.V_reads' HO_0.out).2.2 | (with_reducible refine Kd.C_alloc ?_ _) | (with_reducible refine Kd.C_drewN ?_ _) | (with_reducible refine Kd.C_drew ?_))); (case side2 => exact (Kd.V_reads' HO_0.out).2.1); (case side3 => repeat (first | exact (Kd.V_reads' HO_1.out).2.2 | (with_reducible refine Kd.C_alloc ?_ _) | (with_reducible refine Kd.C_drewN ?_ _) | (with_reducible refine Kd.C_drew ?_))); (case side4 => exact (Kd.V_reads' HO_1.out).2.1); rintro e w12 ⟨v243, v246, rfl, ho0, ho1, hb⟩; refine ⟨_, rfl, ?_⟩; have n0_ := Aside0.mk (Kd.V_below (by (with_reducible repeat (first | apply Kd.V_alloc | apply Kd.V_drewN | apply Kd.V_drew)); exact HO_0.out) hb); have n1_ := Aside0.mk (Kd.V_below (by (with_reducible repeat (first | apply Kd.V_alloc | apply Kd.V_drewN | apply Kd.V_drew)); exact HO_1.out) hb); have n2_ := Aside0.mk (Kd.V_lower (Kd.V_mono (ok' := fun k_ => ((P0_ k_ ∨ P1_ k_) ∨ w.heap.size ≤ k_)) ho0 (fun k_ hk_ => (.inr (Nat.le_trans (below_size (by repeat (first | (with_reducible first | exact HB.out | apply below_alloc | apply pw_below_drewN | apply below_drew1) | exact HB.out))) hk_)))) (below_size (by repeat (first | (with_reducible first | exact HB.out | apply below_alloc | apply pw_below_drewN | apply below_drew1) | exact HB.out)))); have n3_ := Aside0.mk (Kd.V_lower (Kd.V_mono (ok' := fun k_ => ((P0_ k_ ∨ P1_ k_) ∨ w.heap.size ≤ k_)) ho1 (fun k_ hk_ => (.inr (Nat.le_trans (below_size (by repeat (first | (with_reducible first | exact HB.out | apply below_alloc | apply pw_below_drewN | apply below_drew1) | exact HB.out))) hk_)))) (below_size (by repeat (first | (with_reducible first | exact HB.out | apply below_alloc | apply pw_below_drewN | apply below_drew1) | exact HB.out)))); have n4_ := Aside0.mk (below_step (by repeat (first | (with_reducible first | exact HB.out | apply below_alloc | apply pw_below_drewN | apply below_drew1) | exact HB.out)) hb); clear HO_0; clear HO_1; clear HB; have HO_0 := n0_; have HO_1 := n1_; have HO244 := n2_; have HO247 := n3_; have HB := n4_; clear n0_ n1_ n2_ n3_ n4_; (try clear hb); (try clear hb2); (try clear hk); (try clear hi); (try clear ho0); (try clear ho1)))
              go_roundg k2
              case measure => have := HJ2.out; have := HK2.out; omega
              case rel => exact ⟨(x1_2), (t245), H', ⟨by have := HJ2.out; have := HK2.out; omega⟩, ⟨by (with_reducible repeat (first | apply Kd.V_alloc | apply Kd.V_drewN | apply Kd.V_drew)); exact HO_1.out⟩, ⟨by (with_reducible repeat (first | apply Kd.V_alloc | apply Kd.V_drewN | apply Kd.V_drew)); exact HO247.out⟩, ⟨by repeat (first | (with_reducible first | exact HB.out | apply below_alloc | apply pw_below_drewN | apply below_drew1) | exact HB.out)⟩⟩
            · rw [if_neg c8] at H
              have c8b0 : decide (0 < (x1_2.length : Int)) = false := decide_eq_false c8
              have c8b1 : decide (0 < x1_2.length) = false := decide_eq_false (by omega)
              clear c8
              replace H := Option.bind_eq_some_iff.mp H
              obtain ⟨t248, A130, H⟩ := H
              replace H : (some (t248, 0)) = some (r1, r2) := H
              have A13 := Aside0.mk A130
              clear A130
              simp only [Option.some.injEq, Prod.mk.injEq] at H
              obtain ⟨rfl, rfl⟩ := H
              obtain ⟨Ao14, co14, eo14⟩ := Kd.V_slice HO_1.out
              subst eo14
              obtain ⟨Ao15, co15, eo15⟩ := Kd.V_slice HO_0.out
              subst eo15
              go_wp2_with (first | ((with_reducible refine gate_callee (f := 55) rfl ?_); refine goesL_ (some 28) rfl rfl Tryd.func55 (by kernel_rfl) rfl #[.slice Ao15 x0_2.length co15] rfl (by (try simp only [List.map_toArray, List.map_cons, List.map_nil]); first | done | rfl | (simp only [List.length_drop, List.length_take]; rfl)) ?_; (with_reducible refine (api_Nat_uint32_55.calls _ _ x0_2 t248 _ ?side1 ?side2 A13.out).mono ?_); (case side1 => repeat (first | exact (Kd.V_reads' HO_0.out).2.2 | (with_reducible refine Kd.C_alloc ?_ _) | (with_reducible refine Kd.C_drewN ?_ _) | (with_reducible refine Kd.C_drew ?_))); (case side2 => exact (Kd.V_reads' HO_0.out).2.1); rintro e w16 ⟨v249, rfl, ho0, hb⟩; refine ⟨_, rfl, ?_⟩; have n0_ := Aside0.mk (Kd.V_elder' (by (with_reducible repeat (first | apply Kd.V_alloc | apply Kd.V_drewN | apply Kd.V_drew)); exact HO_0.out) (Kd.R_base ho0) hb); have n1_ := Aside0.mk (Kd.V_elder' (by (with_reducible repeat (first | apply Kd.V_alloc | apply Kd.V_drewN | apply Kd.V_drew)); exact HO_1.out) (Kd.R_base ho0) hb); have n2_ := Aside0.mk (Kd.R_lower (Kd.R_newM (M := fun k_ => (w.heap.size ≤ k_)) ho0 (below_size (by repeat (first | (with_reducible first | exact HB.out | apply below_alloc | apply pw_below_drewN | apply below_drew1) | exact HB.out))) (fun k_ h_ => h_)) (below_size (by repeat (first | (with_reducible first | exact HB.out | apply below_alloc | apply pw_below_drewN | apply below_drew1) | exact HB.out)))); have n3_ := Aside0.mk (below_step (by repeat (first | (with_reducible first | exact HB.out | apply below_alloc | apply pw_below_drewN | apply below_drew1) | exact HB.out)) hb); clear HO_0; clear HO_1; clear HB; have HO_0 := n0_; have HO_1 := n1_; have HO250 := n2_; have HB := n3_; clear n0_ n1_ n2_ n3_; (try clear hb); (try clear hb2); (try clear hk); (try clear hi); (try clear ho0)))
              go_ret2
              exact ⟨_, by first | rfl | (simp [errW_none, errW_some] <;> rfl) | (simp [*, errW_none, errW_some] <;> rfl), by (with_reducible repeat (first | apply Kd.R_alloc | apply Kd.R_drewN | apply Kd.R_drew)); exact Kd.R_mono HO250.out (fun _ hk => hk.1), by repeat (first | (with_reducible first | exact HB.out | apply below_alloc | apply pw_below_drewN | apply below_drew1) | exact HB.out)⟩

-- NOT PRINTED: function 102 (strings_indexFunc)

-- NOT PRINTED: function 92 (strings_IndexFunc)

-- NOT PRINTED: function 76 (strings_ContainsFunc)

/-! ### nat_figures: function 57 -/
def oddRune (r : Nat) : Bool := decide (r < 48) || decide (57 < r)
set_option maxHeartbeats 8000000 in
set_option maxRecDepth 100000 in
theorem figures1_calls (x : Nat) (W : World) (hx : x ≤ 1114111) : Calls Tryd.prog 75 #[.int .i32 (x : Int)] W fun e w' => e = .returned (.bool (oddRune x)) ∧ w' = W := by
  by_cases h1 : x < 48
  · have hb : oddRune x = true := by unfold oddRune; simp; omega
    have HB := Aside0.mk hb
    clear hb
    have hd : decide ((x : Int) < 48) = true := decide_eq_true (by omega)
    go_enter Tryd.func75, Tryd.ntmps75
    go_wp2
    go_ret
    rw [HB.out]
    exact ⟨rfl, rfl⟩
  · have hd : decide ((x : Int) < 48) = false := decide_eq_false (by omega)
    by_cases h2 : 57 < x
    · have hb : oddRune x = true := by unfold oddRune; simp; omega
      have HB := Aside0.mk hb
      clear hb
      have hd2 : decide (57 < (x : Int)) = true := decide_eq_true (by omega)
      go_enter Tryd.func75, Tryd.ntmps75
      go_wp2
      go_ret
      rw [HB.out]
      exact ⟨rfl, rfl⟩
    · have hb : oddRune x = false := by unfold oddRune; simp; omega
      have HB := Aside0.mk hb
      clear hb
      have hd2 : decide (57 < (x : Int)) = false := decide_eq_false (by omega)
      go_enter Tryd.func75, Tryd.ntmps75
      go_wp2
      go_ret
      rw [HB.out]
      exact ⟨rfl, rfl⟩

open Go.Lib in
def figb (s : ByteArray) : Bool := !s.toList.isEmpty && !(decide (0 ≤ Lib.idxFunc oddRune true s)) && (bt s 0 != 48 || s.toList == [48])
set_option maxHeartbeats 8000000 in
set_option maxRecDepth 100000 in
theorem figures_calls (s : ByteArray) (w : World) : Calls Tryd.prog 57 #[.string s] w fun e w' => e = .returned (.bool (figb s)) ∧ Below w.heap.size w w' := by
  have hp : PredAtRunes Tryd.prog 75 #[] oddRune w := fun W x hx _ => (figures1_calls x W hx).mono fun e w' h => ⟨h.1, 0, by rw [h.2]; rfl⟩
  have hcf := Tryd.strings_ContainsFunc_runes 75 #[] (enters_ Tryd.func75 (by kernel_rfl) rfl) oddRune s w hp
  have HCF := Aside0.mk hcf
  clear hp hcf
  cases h0 : s.toList.isEmpty with
  | true =>
    have hv : figb s = false := by unfold figb; rw [h0]; rfl
    have HV := Aside0.mk hv
    clear hv
    have h1 : s.toList = [] := by simpa using h0
    go_enter Tryd.func57, Tryd.ntmps57
    go_wp2
    go_ret
    rw [HV.out]
    exact ⟨rfl, Below.refl _ _⟩
  | false =>
    have h1 : ¬ s.toList = [] := by simpa using h0
    have h2 : (!s.toList.isEmpty) = true := by rw [h0]; rfl
    cases hc : decide (0 ≤ Lib.idxFunc oddRune true s) with
    | true =>
      have hv : figb s = false := by unfold figb; rw [h0, hc]; rfl
      have HV := Aside0.mk hv
      rw [hc] at HCF
      clear hv hc
      go_enter Tryd.func57, Tryd.ntmps57
      go_wp2_with (go_at_call 76; refine HCF.out.mono ?_; rintro e w' ⟨rfl, hb⟩; have HB := Aside0.mk hb; clear hb)
      go_ret
      rw [HV.out]
      exact ⟨rfl, HB.out⟩
    | false =>
      rw [hc] at HCF
      have hpos : 0 < s.size := by
        rcases Nat.eq_zero_or_pos s.size with h | h
        · exfalso
          apply h1
          rw [ByteArray.toList_eq]
          exact List.eq_nil_of_length_eq_zero (by simpa using h)
        · exact h
      have hx : ((s[0]'hpos).toNat : Int) = bt s 0 := bt_at s 0 hpos
      cases h4 : (bt s 0 != 48) with
      | true =>
        have hv : figb s = true := by unfold figb; rw [h0, hc, h4]; rfl
        have HV := Aside0.mk hv
        clear hv hc
        go_enter Tryd.func57, Tryd.ntmps57
        go_wp2_with (go_at_call 76; refine HCF.out.mono ?_; rintro e w' ⟨rfl, hb⟩; have HB := Aside0.mk hb; clear hb)
        go_ret
        rw [HV.out]
        exact ⟨rfl, HB.out⟩
      | false =>
        cases h5 : (s.toList == [48]) with
        | true =>
          have hv : figb s = true := by unfold figb; rw [h0, hc, h4, h5]; rfl
          have HV := Aside0.mk hv
          have h6 : s.toList = [48] := by simpa using h5
          clear hv hc
          go_enter Tryd.func57, Tryd.ntmps57
          go_wp2_with (go_at_call 76; refine HCF.out.mono ?_; rintro e w' ⟨rfl, hb⟩; have HB := Aside0.mk hb; clear hb)
          go_ret
          rw [HV.out]
          exact ⟨rfl, HB.out⟩
        | false =>
          have hv : figb s = false := by unfold figb; rw [h0, hc, h4, h5]; rfl
          have HV := Aside0.mk hv
          have h6 : ¬ s.toList = [48] := by simpa using h5
          clear hv hc
          go_enter Tryd.func57, Tryd.ntmps57
          go_wp2_with (go_at_call 76; refine HCF.out.mono ?_; rintro e w' ⟨rfl, hb⟩; have HB := Aside0.mk hb; clear hb)
          go_ret
          rw [HV.out]
          exact ⟨rfl, HB.out⟩
def nat_figures.f (a0 : ByteArray) : Option Bool := some (figb a0)
theorem nat_figures.calls (a0 : ByteArray) (r : Bool) (w : World) (h : nat_figures.f a0 = some r) : Calls Tryd.prog 57 #[.string a0] w fun e w' => e = .returned (.bool r) ∧ Below w.heap.size w w' := by
  obtain rfl := Option.some.inj h
  exact figures_calls a0 w

/-! ### nat_Parse: function 26 -/
def parS (l : List Int) (c : Int) (i : Nat) : Int := IntKind.u64.wrap (c + IntKind.u64.wrap (atv l i * 10))
set_option maxHeartbeats 8000000 in
set_option maxRecDepth 100000 in
theorem par1_calls (l0 : List Int) (A0 : Option Addr) (c0 : Nat) (cb ba : Nat) (W : World) (i : Nat) (c : Int) (hi : i < 1000000)
    (hr0 : Kd.C (Kd.int .u32) W A0 l0.length l0) (hc0 : l0.length ≤ c0)
    (h1 : W.heap[cb]? = some (.cells #[.int .u64 c] 44 (0, 0))) (h2 : W.heap[ba]? = some (.cells #[.slice A0 l0.length c0] 25 (0, 0))) :
    Calls Tryd.prog 59 #[.int .i64 (i : Int), .pointer (some ⟨cb, 0, none⟩), .pointer (some ⟨ba, 0, none⟩)] W fun e W' =>
      e = .returned (.int .u64 (Go.bits .and .u64 (parS l0 c i) 4294967295)) ∧ W'.heap[cb]? = some (.cells #[.int .u64 (parS l0 c i / 4294967296)] 44 (0, 0)) ∧ Kept W W' (fun j => j = cb) ∧ Below cb W W' := by
  have x1 : W.cell? ⟨cb, 0, none⟩ = some (.int .u64 c) := (blk_cell h1 0).trans rfl
  have x2 : W.cell? ⟨ba, 0, none⟩ = some (.slice A0 l0.length c0) := (blk_cell h2 0).trans rfl
  have f1 := cell_of_one h1
  have f2 := free_of_one h1
  have HR0 := Aside0.mk hr0
  have H1 := Aside0.mk h1
  clear h1 h2 hr0
  go_enter Tryd.func59, Tryd.ntmps59
  go_wp2
  refine wp_region_still_tail 6 (by kernel_rfl) (by kernel_rfl) ?_
  simp only [List.take_succ_cons, List.take_zero, List.drop_succ_cons, List.drop_zero]
  repeat still_step
  still_call (at_still A0 c0 l0 i _ hi HR0.out hc0)
  repeat still_step
  refine wpStill_nil ?_
  go_wp2
  go_ret
  refine ⟨rfl, ?_, ?_, ?_⟩
  · exact blk_set (blk_set H1.out 0 _) 0 _
  · exact ((((Kept.refl W (fun j => j = cb)).setCell (p := ⟨cb, 0, none⟩) (.inl rfl) _).setCell (p := ⟨cb, 0, none⟩) (.inl rfl) _)).drew
  · exact below_drew (((Below.refl cb W).setCell (by exact Nat.le_refl cb) _).setCell (by exact Nat.le_refl cb) _)
def parC (l : List Int) (c0 : Int) : Nat → Int
  | 0 => c0
  | j + 1 => parS l (parC l c0 j) j / 4294967296
def parV (l : List Int) (c0 : Int) (j : Nat) : Int := Go.bits .and .u64 (parS l (parC l c0 j) j) 4294967295
def parStep (k : Nat) (l : List Int) (c0 : Int) : Option (List Int) := if l.length + 1 ≤ 1000000 then nat_trim.f k ((List.range (l.length + 1)).map fun j => parV l c0 j % 4294967296) else none
def nat_Parse.l0 : Nat → ByteArray → Nat → List Int → Option (List Int × Int)
  | 0, _, _, _ => none
  | k + 1, s, pos, l => if pos < s.size then ((parStep k l (IntKind.u64.wrap (wrap32 (((Utf8.decode s pos).1 : Int) - 48)))).bind fun l1 => nat_Parse.l0 k s (pos + (Utf8.decode s pos).2) l1) else nat_fit.f l
def nat_Parse.f (k : Nat) (a0 : ByteArray) : Option (List Int × Int) := (nat_figures.f a0).bind fun t => if t = true then (if (a0.size : Int) > 2500 then some ([], 4) else nat_Parse.l0 k a0 0 []) else some ([], 3)
theorem parStep.mono (k : Nat) (l : List Int) (c0 : Int) : LeO (parStep k l c0) (parStep (k + 1) l c0) := by
  unfold parStep
  exact LeO.ite (nat_trim.mono _ _) (LeO.none _)
theorem nat_Parse.mono_l : ∀ (k : Nat) (s : ByteArray) (pos : Nat) (l : List Int), LeO (nat_Parse.l0 k s pos l) (nat_Parse.l0 (k + 1) s pos l)
  | 0, _, _, _ => fun r h => by simp [nat_Parse.l0] at h
  | k + 1, s, pos, l => by
    unfold nat_Parse.l0
    exact LeO.ite (LeO.bind (parStep.mono k l _) (fun l1 => nat_Parse.mono_l k s _ l1)) (LeO.refl _)
theorem nat_Parse.mono : ∀ a0 k, LeO (nat_Parse.f k a0) (nat_Parse.f (k + 1) a0) := by
  intro a0 k
  unfold nat_Parse.f
  exact LeO.bind (LeO.refl _) (fun t => LeO.ite (LeO.ite (LeO.refl _) (nat_Parse.mono_l k _ _ _)) (LeO.refl _))
structure ParSt (l : List Int) (c0 : Int) (v : Value) (b cb N : Nat) (wp : World) (i : Nat) (W : World) : Prop where
  fb : W.heap[b]? = some (.cells #[v] 25 (0, 0))
  fc : W.heap[cb]? = some (.cells #[.int .u64 (parC l c0 i)] 44 (0, 0))
  fo : ∀ q, q < N → W.heap[q]? = wp.heap[q]?
set_option maxHeartbeats 8000000 in
set_option maxRecDepth 100000 in
theorem parse_round (k : Nat) (s : ByteArray) (l l1 : List Int) (v : Value) (b : Nat) (c0 : Int) (w0 w W : World) (hB : Below w0.heap.size w0 W) (hw : w.heap.size ≤ W.heap.size) (hb0 : w0.heap.size ≤ b) (hbW : b + 2 ≤ W.heap.size) (hfb : W.heap[b]? = some (.cells #[v] 25 (0, 0)))
    (hV : Kd.V (Kd.int .u32) 56 W w0.heap.size (fun q => b + 2 ≤ q) v l) (hs : parStep k l c0 = some l1) :
    Calls Tryd.prog 58 #[.int .i64 ((l.length : Int) + 1), .func (.func 59) #[] #[.pointer (some ⟨W.heap.size, 0, none⟩), .pointer (some ⟨b, 0, none⟩)]] (W.alloc (.cells #[.int .u64 c0] 44)) fun e w' =>
      ∃ v0_ : Value, e = .returned v0_ ∧ Kd.V (Kd.int .u32) 56 w' w0.heap.size (fun q => W.heap.size ≤ q) v0_ l1 ∧ Below w0.heap.size w0 w' ∧ Kept (W.alloc (.cells #[.int .u64 c0] 44)) w' (fun j => j = W.heap.size) := by
  have hm : l.length + 1 ≤ 1000000 := by
    unfold parStep at hs
    by_cases hm : l.length + 1 ≤ 1000000
    · exact hm
    · rw [if_neg hm] at hs; cases hs
  unfold parStep at hs
  rw [if_pos hm] at hs
  obtain ⟨A, c, rfl, hlc, hF⟩ := hV
  have hC := Kd.F_now hF
  have e2 := heap_alloc_new W (.cells #[.int .u64 c0] 44)
  have b2 := below_alloc (Below.refl W.heap.size W) (.cells #[.int .u64 c0] 44)
  have s3 : (W.alloc (.cells #[.int .u64 c0] 44)).heap.size = W.heap.size + 1 := by simp
  have hst : Steps 59 #[.pointer (some ⟨W.heap.size, 0, none⟩), .pointer (some ⟨b, 0, none⟩)] (l.length + 1) (parV l c0) W.heap.size (ParSt l c0 (.slice A l.length c) b W.heap.size W.heap.size W) (W.alloc (.cells #[.int .u64 c0] 44)) := by
    refine ⟨enters_ Tryd.func59 (by kernel_rfl) rfl, ⟨?_, e2, fun q hq => b2.block q hq⟩, ?_, ?_⟩
    · rw [b2.block _ (by omega)]; exact hfb
    · intro i X X' hS hle hk
      rw [s3] at hk
      refine ⟨?_, ?_, fun q hq => ?_⟩
      · rw [hk _ (by omega)]; exact hS.fb
      · rw [hk _ (by omega)]; exact hS.fc
      · rw [hk _ (by omega)]; exact hS.fo q hq
    · intro i X hi hS hle
      have hc0' : Kd.C (Kd.int .u32) X A l.length l := (Kd.heap_int .u32).C (fun q hq => hS.fo q hq) hC
      refine (par1_calls l A c W.heap.size b X i (parC l c0 i) (by omega) hc0' hlc hS.fc hS.fb).mono ?_
      rintro e W' ⟨rfl, h1, h2, h3⟩
      refine ⟨rfl, ⟨?_, h1, fun q hq => ?_⟩, h2, h3⟩
      · rw [h3.block _ (by omega)]; exact hS.fb
      · rw [h3.block _ hq]; exact hS.fo q hq
  have hcall := limbs_calls k (l.length + 1) 59 _ (parV l c0) W.heap.size (ParSt l c0 (.slice A l.length c) b W.heap.size W.heap.size W) w0 _ l1 hm (hB.trans (b2.mono (by have := hB.size; omega))) (by omega) (by rw [s3]; omega) hst hs
  rw [show ((l.length + 1 : Nat) : Int) = (l.length : Int) + 1 by omega] at hcall
  refine hcall.mono ?_
  rintro e w' ⟨v0, rfl, hv, _, hb, hk⟩
  exact ⟨v0, rfl, Kd.V_mono hv (fun q hq => by rw [s3] at hq; omega), hb, hk⟩
set_option maxHeartbeats 8000000 in
set_option maxRecDepth 100000 in
theorem nat_Parse.calls (k : Nat) (a0 : ByteArray) (r1 : List Int) (r2 : Int) (w : World) (h : nat_Parse.f k a0 = some (r1, r2)) :
    Calls Tryd.prog 26 #[.string a0] w fun e w' => ∃ v0_ : Value, e = .returned (.tuple #[v0_, .int .i64 r2]) ∧ Kd.V (Kd.int .u32) 56 w' w.heap.size (fun k_ => w.heap.size ≤ k_) v0_ r1 ∧ Below w.heap.size w w' := by
  have hF := nat_figures.calls a0 (figb a0) w rfl
  have HF := Aside0.mk hF
  clear hF
  have hmf : ∀ (fn : Fn) (first cap : Array Value) (w : World), (Instr.makeFunc fn first cap).run Tryd.prog w = .ok (.func fn first cap) w := fun _ _ _ _ => rfl
  unfold nat_Parse.f at h
  rw [show nat_figures.f a0 = some (figb a0) from rfl, Option.bind_some] at h
  cases hb : figb a0 with
  | false =>
    rw [hb] at h HF
    rw [if_neg (by decide)] at h
    simp only [Option.some.injEq, Prod.mk.injEq] at h
    obtain ⟨rfl, rfl⟩ := h
    clear hb
    go_enter Tryd.func26, Tryd.ntmps26
    go_wp2_with (go_at_call 57; refine HF.out.mono ?_; rintro e w' ⟨rfl, hb⟩; have HB := Aside0.mk hb; clear hb)
    go_ret2
    exact ⟨_, rfl, Kd.V_nil _ _ _ _ _, HB.out⟩
  | true =>
    rw [hb] at h HF
    rw [if_pos rfl] at h
    clear hb
    by_cases hl : (a0.size : Int) > 2500
    · rw [if_pos hl] at h
      simp only [Option.some.injEq, Prod.mk.injEq] at h
      obtain ⟨rfl, rfl⟩ := h
      have hd : decide ((2500 : Int) < (a0.size : Int)) = true := decide_eq_true hl
      have hd2 : decide (2500 < a0.size) = true := decide_eq_true (by omega)
      go_enter Tryd.func26, Tryd.ntmps26
      go_wp2_with (go_at_call 57; refine HF.out.mono ?_; rintro e w' ⟨rfl, hb⟩; have HB := Aside0.mk hb; clear hb)
      go_ret2
      exact ⟨_, rfl, Kd.V_nil _ _ _ _ _, HB.out⟩
    · rw [if_neg hl] at h
      have hd : decide ((2500 : Int) < (a0.size : Int)) = false := decide_eq_false hl
      have hd2 : decide (2500 < a0.size) = false := decide_eq_false (by omega)
      have hl2 : a0.size ≤ 2500 := by omega
      have HH := Aside0.mk h
      clear h hl
      go_enter Tryd.func26, Tryd.ntmps26
      go_wp2_with (go_at_call 57; refine HF.out.mono ?_; rintro e w1 ⟨rfl, hb⟩; have HB := Aside0.mk hb; clear hb)
      go_loopg [] k (fun kq wx => ∃ (pos : Nat) (l : List Int) (v : Value), Aside0 (wx.heap[w1.heap.size + 1]? = some (.stringIter a0 pos)) ∧ Aside0 (wx.heap[w1.heap.size]? = some (.cells #[v] 25 (0, 0))) ∧ Aside0 (Kd.V (Kd.int .u32) 56 wx w.heap.size (fun q => w1.heap.size + 2 ≤ q) v l) ∧ Aside0 (Below w.heap.size w wx) ∧ w1.heap.size + 2 ≤ wx.heap.size ∧ Aside0 (nat_Parse.l0 kq a0 pos l = some (r1, r2)) ∧ Aside0 (kq ≤ k))
      case atStart =>
        have e1 := heap_alloc_new w1 (.cells #[.slice none 0 0] 25)
        have b1 := below_alloc (Below.refl w1.heap.size w1) (.cells #[.slice none 0 0] 25)
        have s1 : (w1.alloc (.cells #[.slice none 0 0] 25)).heap.size = w1.heap.size + 1 := by simp
        have i1 := World.iter_heap (w1.alloc (.cells #[.slice none 0 0] 25)) a0 0
        rw [s1] at i1
        have hs1 := HB.out.size
        refine ⟨0, [], .slice none 0 0, ⟨i1⟩, ⟨?_⟩, ⟨Kd.V_nil _ _ _ _ _⟩, ⟨?_⟩, ?_, HH, ⟨Nat.le_refl _⟩⟩
        · show ((w1.alloc (.cells #[.slice none 0 0] 25)).alloc _).heap[w1.heap.size]? = _
          rw [heap_alloc_old _ _ (by rw [s1]; omega)]; exact e1
        · exact below_alloc (below_alloc HB.out _) _
        · show w1.heap.size + 2 ≤ ((w1.alloc (.cells #[.slice none 0 0] 25)).alloc _).heap.size
          simp
      case round =>
        clear HH
        obtain ⟨pos, l, v, HI, HX, HV, HBx, hsz, HA, HK⟩ := hrel
        cases gk with
        | zero => exact absurd HA.out (by simp [nat_Parse.l0])
        | succ k2 =>
          have H := HA.out
          clear HA
          simp only [nat_Parse.l0] at H
          by_cases hp : pos < a0.size
          · rw [if_pos hp] at H
            obtain ⟨l1, hst, H⟩ := Option.bind_eq_some_iff.mp H
            have hn := Lib.run_next_any_at (P := Tryd.prog) wr (w1.heap.size + 1) a0 pos 0 HI.out hp
            have hI2 := Lib.iterAt_heap wr (w1.heap.size + 1) a0 pos (pos + (Utf8.decode a0 pos).2) HI.out
            have hX2 : (wr.iterAt (w1.heap.size + 1) a0 (pos + (Utf8.decode a0 pos).2)).heap[w1.heap.size]? = some (.cells #[v] 25 (0, 0)) := (Lib.iterAt_other wr (w1.heap.size + 1) w1.heap.size a0 _ (by omega)).trans HX.out
            have hB2 := Lib.below_iterAt HBx.out (k := w1.heap.size + 1) (by have := HB.out.size; omega) a0 (pos + (Utf8.decode a0 pos).2)
            have hs2 := Nat.le_of_eq (Lib.iterAt_size wr (w1.heap.size + 1) a0 (pos + (Utf8.decode a0 pos).2)).symm
            have hV2 : Kd.V (Kd.int .u32) 56 (wr.iterAt (w1.heap.size + 1) a0 (pos + (Utf8.decode a0 pos).2)) w.heap.size (fun q => w1.heap.size + 2 ≤ q) v l := Kd.V_step HV.out (by intro q hq hq2; exact Lib.iterAt_other _ _ _ _ _ (by omega))
            have HN := Aside0.mk hn
            clear hn
            obtain ⟨wi, hwi⟩ : ∃ wi : World, wi = wr.iterAt (w1.heap.size + 1) a0 (pos + (Utf8.decode a0 pos).2) := ⟨_, rfl⟩
            rw [← hwi] at hI2 hX2 hB2 hs2 hV2 HN
            have hn := HN.out
            clear HN hwi
            have hm : l.length + 1 ≤ 1000000 := by
              unfold parStep at hst
              by_cases hm : l.length + 1 ≤ 1000000
              · exact hm
              · rw [if_neg hm] at hst; cases hst
            have hw64 : wrap64 ((l.length : Int) + 1) = (l.length : Int) + 1 := by unfold wrap64; omega
            obtain ⟨A, c, rfl⟩ := Kd.V_slice hV2
            have x1 : (wi.alloc (.cells #[.int .u64 (IntKind.u64.wrap (wrap32 (((Utf8.decode a0 pos).1 : Int) - 48)))] 44)).cell? ⟨w1.heap.size, 0, none⟩ = some (.slice A l.length c) := (blk_cell ((heap_alloc_old _ _ (by omega)).trans hX2) 0).trans rfl
            have hR := Aside0.mk (parse_round k2 a0 l l1 _ w1.heap.size (IntKind.u64.wrap (wrap32 (((Utf8.decode a0 pos).1 : Int) - 48))) w w wi hB2 hB2.size HB.out.size (by omega) hX2 hV2 hst)
            go_wp2_with (go_at_call 58; refine hR.out.mono ?_; rintro e w2 ⟨v2, rfl, hv2, hb2, hk2⟩; obtain ⟨A2, c2, rfl⟩ := Kd.V_slice hv2; have hx2 : w2.heap[w1.heap.size]? = some (.cells #[.slice A l.length c] 25 (0, 0)) := blk_kept ((heap_alloc_old _ _ (by omega)).trans hX2) hk2 (by show ¬ (w1.heap.size = wi.heap.size); omega); have hi2 : w2.heap[w1.heap.size + 1]? = some (.stringIter a0 (pos + (Utf8.decode a0 pos).2)) := blk_kept ((heap_alloc_old _ _ (by omega)).trans hI2) hk2 (by show ¬ (w1.heap.size + 1 = wi.heap.size); omega); have g1 := cell_of_one hx2; have g2 := free_of_one hx2; have HX2 := Aside0.mk hx2; have HI2 := Aside0.mk hi2; have HV2 := Aside0.mk hv2; have HB2 := Aside0.mk hb2; have HK2 := Aside0.mk hk2; clear hv2 hb2 hk2 hx2 hi2)
            have hkk := HK.out
            have hs1 := HB.out.size
            go_roundg k2
            case measure => omega
            case rel =>
              refine ⟨pos + (Utf8.decode a0 pos).2, l1, .slice A2 l1.length c2, ⟨?_⟩, ⟨?_⟩, ⟨?_⟩, ⟨?_⟩, ?_, ⟨H⟩, ⟨by omega⟩⟩
              · exact blk_kept HI2.out ((Kept.refl w2 (fun j => j = w1.heap.size)).setCell (p := ⟨w1.heap.size, 0, none⟩) (.inl rfl) _) (by show ¬ (w1.heap.size + 1 = w1.heap.size); omega)
              · exact blk_set HX2.out 0 _
              · exact Kd.V_far (Kd.V_mono HV2.out (fun q hq => by show w1.heap.size + 2 ≤ q; omega)) (fun q hq => by show q ≠ w1.heap.size; omega) _
              · exact HB2.out.setCell (by show w.heap.size ≤ w1.heap.size; omega) _
              · have := HK2.out.1
                have s4 : (wi.alloc (.cells #[.int .u64 (IntKind.u64.wrap (wrap32 (((Utf8.decode a0 pos).1 : Int) - 48)))] 44)).heap.size = wi.heap.size + 1 := by simp
                have := ((Kept.refl w2 (fun j => j = w1.heap.size)).setCell (p := ⟨w1.heap.size, 0, none⟩) (.inl rfl) (.slice A2 l1.length c2)).1
                omega
          · rw [if_neg hp] at H
            have hn := Lib.run_next_end_at (P := Tryd.prog) wr (w1.heap.size + 1) a0 pos 0 HI.out hp
            obtain ⟨A, c, rfl⟩ := Kd.V_slice HV.out
            have x1 : wr.cell? ⟨w1.heap.size, 0, none⟩ = some (.slice A l.length c) := (blk_cell HX.out 0).trans rfl
            have hR := Aside0.mk (nat_fit.calls (fun q => w1.heap.size + 2 ≤ q) A c l r1 r2 wr HV.out H)
            go_wp2_with (go_at_call 41; refine hR.out.mono ?_; rintro e w2 ⟨v2, rfl, hv2, hb2⟩; have HV2 := Aside0.mk hv2; have HB2 := Aside0.mk hb2; clear hv2 hb2)
            have hs1 := HB.out.size
            have hs2 := HBx.out.size
            go_ret2
            refine ⟨_, rfl, ?_, ?_⟩
            · exact Kd.V_mono HV2.out (fun q hq => hq.elim (fun h => by have : w1.heap.size + 2 ≤ q := h; omega) (fun h => by omega))
            · exact HBx.out.trans (HB2.out.mono hs2)

-- NOT PRINTED: function 93 (strconv_small)

-- NOT PRINTED: function 103 (strconv_log10Pow2)

-- NOT PRINTED: function 104 (bits_Len64)

-- NOT PRINTED: function 105 (strconv_bool2_int)

-- NOT PRINTED: function 94 (strconv_numDigits)

-- NOT PRINTED: function 95 (strconv_formatBase10)

-- NOT PRINTED: function 106 (strconv_isPowerOfTwo)

-- NOT PRINTED: function 110 (bits_TrailingZeros32)

-- NOT PRINTED: function 111 (bits_TrailingZeros64)

-- NOT PRINTED: function 107 (bits_TrailingZeros)

-- NOT PRINTED: function 96 (strconv_formatBits)

-- NOT PRINTED: function 77 (strconv_FormatUint_77)

/-! ### strconv_FormatUint_62: function 62 -/
open Go.Sort
/-- The table of powers of ten is as its initialiser lays it. -/
def TabOK (w : World) : Prop := Lib.TabIs Tryd.prog w "internal/strconv.uint64pow10" .u64 Lib.pow10Tab
theorem TabOK.below {w w' : World} (h0 : TabOK w) (hb : Below w.heap.size w w') : TabOK w' := by
  have h : Lib.TabIs Tryd.prog w "internal/strconv.uint64pow10" .u64 Lib.pow10Tab := h0
  show Lib.TabIs Tryd.prog w' "internal/strconv.uint64pow10" .u64 Lib.pow10Tab
  unfold Lib.TabIs World.var? at h ⊢
  cases hg : Program.globalNamed Tryd.prog "internal/strconv.uint64pow10" with
  | none => rw [hg] at h; simp at h
  | some g =>
    rw [hg] at h
    simp only [Option.bind_some] at h ⊢
    have hlt : g < w.heap.size := by
      rcases Nat.lt_or_ge g w.heap.size with h' | h'
      · exact h'
      · rw [Array.getElem?_eq_none h'] at h; cases h
    rw [hb.block g hlt]
    exact h
set_option maxHeartbeats 8000000 in
set_option maxRecDepth 100000 in
theorem fmtu_small (u : Nat) (hu : u < 100) (w : World) : Calls Tryd.prog 77 #[.int .u64 (u : Int), .int .i64 10] w fun e w' => e = .returned (.string ⟨(Lib.decDigits u).toArray⟩) ∧ Below w.heap.size w w' := by
  go_enter Tryd.func77, Tryd.ntmps77
  go_wp2_with (go_at_call 93; refine (Tryd.internal_strconv_small u hu _).mono ?_; rintro e w' ⟨rfl, rfl⟩)
  go_ret
  exact ⟨rfl, Below.refl _ _⟩
theorem holds_zero0 (w : World) (T : TypeId) (nd : Nat) (hs : nd ≤ 24) : Holds (fun (b : UInt8) => Value.int .u8 (b.toNat : Int)) (w.alloc (.cells Lib.zeros24 T)) w.heap.size 0 (Array.replicate nd (0 : UInt8)) := fun j hj => by
  have hj' : j < nd := by simpa using hj
  refine ⟨?_, World.frozen?_alloc_new _ _ _ _⟩
  rw [World.cell?_alloc_new, Lib.zeros24_at _ (by omega), getElem!_pos _ j hj]
  simp
set_option maxHeartbeats 8000000 in
set_option maxRecDepth 100000 in
theorem fmtu_big (u : Nat) (hu : 100 ≤ u) (hu64 : u < 18446744073709551616) (w : World) (htab : Lib.TabIs Tryd.prog w "internal/strconv.uint64pow10" .u64 Lib.pow10Tab) : Calls Tryd.prog 77 #[.int .u64 (u : Int), .int .i64 10] w fun e w' => e = .returned (.string ⟨(Lib.decDigits u).toArray⟩) ∧ Below w.heap.size w w' := by
  have hu1 : 1 ≤ u := by omega
  have hnd20 : Lib.nDigits u ≤ 20 := by have := Lib.numDigits_eq u hu1 hu64; split at this <;> omega
  have hb3 : Lib.nDigits u ≤ 24 := by omega
  have hal : Tryd.prog.arrayLen 115 = 24 := by kernel_rfl
  have hsl1 : ∀ W, (Instr.sliceAt 115 (.pointer (some ⟨w.heap.size, 0, none⟩)) none (some (.int .i64 (Lib.nDigits u : Int))) none).run Tryd.prog W = .ok (.slice (some ⟨w.heap.size, 0, none⟩) (Lib.nDigits u) 24) W := fun W => by
    rw [run_sliceAt_array_h W 115 ⟨w.heap.size, 0, none⟩ (by kernel_rfl) .i64 (Lib.nDigits u : Int) (by omega) (by rw [hal]; omega)]
    go_simp
  have hH0 := holds_zero0 w 115 (Lib.nDigits u) (by omega)
  have hfmt := Tryd.internal_strconv_formatBase10 w.heap.size 0 24 u (Array.replicate (Lib.nDigits u) 0) (w.alloc (.cells Lib.zeros24 115)) hH0 (by rw [Array.size_replicate]; exact Lib.lt_pow_nDigits u) hu64 (by rw [Array.size_replicate]; omega)
  rw [Array.size_replicate] at hfmt
  have HH0 := Aside0.mk hH0
  clear hH0 hal
  go_enter Tryd.func77, Tryd.ntmps77
  go_wp2_with (first | (go_at_call 94; refine (Tryd.internal_strconv_numDigits u hu1 hu64 _ (Lib.tabIs_alloc htab _)).mono ?_; rintro e w' ⟨rfl, rfl⟩))
  go_at_call 95
  refine hfmt.mono ?_
  rintro e w' ⟨rfl, k, v', dk, rfl, hF⟩
  have hcv : (convert 83 9 (.slice (some ⟨w.heap.size, 0, none⟩) (Lib.nDigits u) 24)).run Tryd.prog ((putRow (fun (b : UInt8) => Value.int .u8 (b.toNat : Int)) (w.alloc (.cells Lib.zeros24 115)) w.heap.size 0 dk).drewN k) = .ok (.string ⟨(Lib.decDigits u).toArray⟩) ((putRow (fun (b : UInt8) => Value.int .u8 (b.toNat : Int)) (w.alloc (.cells Lib.zeros24 115)) w.heap.size 0 dk).drewN k) := by
    have h := run_convert_bytes_back (P := Tryd.prog) ((putRow (fun (b : UInt8) => Value.int .u8 (b.toNat : Int)) (w.alloc (.cells Lib.zeros24 115)) w.heap.size 0 dk).drewN k) 83 9 5 ⟨w.heap.size, 0, none⟩ 24 (Lib.decDigits u) Tryd.underlying83 Tryd.underlying5 Tryd.underlying9 (fun j hj => by
      rw [Lib.row_is_numeral hF j hj, Lib.add_plain, World.cell?_drewN]
      exact cell?_putRow (fun (b : UInt8) => Value.int .u8 (b.toNat : Int)) _ w.heap.size 0 _ dk HH0.out (by rw [hF.size, Array.size_replicate]) j (by rw [hF.size]; rw [Lib.decDigits_length] at hj; exact hj))
    rw [Lib.decDigits_length] at h
    exact h
  go_wp2
  go_ret
  refine ⟨rfl, ?_⟩
  rw [alloc_eq_grow]
  obtain ⟨os', _, e⟩ := putRow_grow_new (fun (b : UInt8) => Value.int .u8 (b.toNat : Int)) w #[.cells Lib.zeros24 115] w.heap.size 0 dk (Nat.le_refl _)
  rw [e]
  have hb : Below w.heap.size w (grow w os') := ⟨rfl, rfl, rfl, by show w.heap.size ≤ (w.heap ++ os').size; rw [Array.size_append]; omega, fun _ hj => Sort.heap_grow_old w os' hj⟩
  exact pw_below_drewN hb k
def strconv_FormatUint_62.f (a0 a1 : Int) : Option ByteArray := if a1 = 10 ∧ 0 ≤ a0 ∧ a0 < 18446744073709551616 then some ⟨(Lib.decDigits a0.toNat).toArray⟩ else none
set_option maxHeartbeats 8000000 in
set_option maxRecDepth 100000 in
theorem fmtu_any (u : Nat) (hu64 : u < 18446744073709551616) (w : World) (hT : TabOK w) : Calls Tryd.prog 62 #[.int .u64 (u : Int), .int .i64 10] w fun e w' => e = .returned (.string ⟨(Lib.decDigits u).toArray⟩) ∧ Below w.heap.size w w' := by
  have hc : Calls Tryd.prog 77 #[.int .u64 (u : Int), .int .i64 10] w fun e w' => e = .returned (.string ⟨(Lib.decDigits u).toArray⟩) ∧ Below w.heap.size w w' := by
    by_cases hu : u < 100
    · exact fmtu_small u hu w
    · exact fmtu_big u (by omega) hu64 w hT
  have HC := Aside0.mk hc
  clear hc hT hu64
  go_enter Tryd.func62, Tryd.ntmps62
  go_wp2_with (go_at_call 77; refine HC.out.mono ?_; rintro e w' ⟨rfl, hb⟩; have HB := Aside0.mk hb; clear hb)
  go_ret
  exact ⟨rfl, HB.out⟩
theorem strconv_FormatUint_62.calls (a0 a1 : Int) (r : ByteArray) (w : World) (hT : TabOK w) (h : strconv_FormatUint_62.f a0 a1 = some r) : Calls Tryd.prog 62 #[.int .u64 a0, .int .i64 a1] w fun e w' => e = .returned (.string r) ∧ Below w.heap.size w w' := by
  unfold strconv_FormatUint_62.f at h
  by_cases hg : a1 = 10 ∧ 0 ≤ a0 ∧ a0 < 18446744073709551616
  · rw [if_pos hg] at h
    obtain rfl := Option.some.inj h
    obtain ⟨rfl, h0, h1⟩ := hg
    obtain ⟨u, rfl⟩ := Int.eq_ofNat_of_zero_le h0
    exact fmtu_any u (by omega) w hT
  · rw [if_neg hg] at h
    cases h

-- NOT PRINTED: function 97 (bits_Mul32)

-- NOT PRINTED: function 98 (bits_Mul64)

-- NOT PRINTED: function 78 (bits_Mul)

-- NOT PRINTED: function 99 (stringslite_HasPrefix)

-- NOT PRINTED: function 79 (strings_HasPrefix)

-- NOT PRINTED: function 108 (abi_NoEscape)

-- NOT PRINTED: function 100 (strings_Builder_copyCheck)

-- NOT PRINTED: function 109 (bytealg_MakeNoZero)

-- NOT PRINTED: function 101 (strings_Builder_grow)

-- NOT PRINTED: function 80 (strings_Builder_Grow)

-- NOT PRINTED: function 81 (strings_Builder_WriteString)

-- NOT PRINTED: function 82 (strings_Builder_Len)

-- NOT PRINTED: function 83 (strings_Builder_String)

/-! ### strings_Repeat: function 63 -/
def strings_Repeat.f (a0 : ByteArray) (a1 : Int) : Option ByteArray := if 0 ≤ a1 ∧ a1 ≤ 9223372036854775807 ∧ a0.size * a1.toNat ≤ 140737488355328 then some ⟨(Lib.repeatL a0.data.toList a1.toNat).toArray⟩ else none
theorem strings_Repeat.calls (a0 : ByteArray) (a1 : Int) (r : ByteArray) (w : World) (h : strings_Repeat.f a0 a1 = some r) : Calls Tryd.prog 63 #[.string a0, .int .i64 a1] w fun e w' => e = .returned (.string r) ∧ Below w.heap.size w w' := by
  unfold strings_Repeat.f at h
  by_cases hg : 0 ≤ a1 ∧ a1 ≤ 9223372036854775807 ∧ a0.size * a1.toNat ≤ 140737488355328
  · rw [if_pos hg] at h
    obtain rfl := Option.some.inj h
    obtain ⟨h0, h1, h2⟩ := hg
    obtain ⟨c, rfl⟩ := Int.eq_ofNat_of_zero_le h0
    exact Tryd.strings_Repeat a0 c w (by omega) h2
  · rw [if_neg hg] at h
    cases h

end Go.Proofs.YtcidmdjhmhkmgaaDoor.S
