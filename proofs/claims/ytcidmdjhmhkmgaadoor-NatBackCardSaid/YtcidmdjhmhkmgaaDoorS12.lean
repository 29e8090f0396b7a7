-- Printed by pp.py (wip/pp), a program of this session's, over the kit's print; Lean checks it.
import Derived.Test.YtcidmdjhmhkmgaaDoorS0
import Derived.Test.YtcidmdjhmhkmgaaDoorS1
namespace Go.Proofs.YtcidmdjhmhkmgaaDoor.S
open Go.RowKit Go.Proofs.YtcidmdjhmhkmgaaDoorW.PrintWords Go.Proofs.YtcidmdjhmhkmgaaDoorW.PrintLast Go.Proofs.YtcidmdjhmhkmgaaDoorW.PrintMore
attribute [local go_sem] max2_int min2_int max_two min_two max_three min_three max_four min_four   -- for this text's walks alone
set_option linter.unusedVariables false
set_option linter.unusedSimpArgs false


/-! ### nat_Fits: function 33 -/
section
open Go.Shelf
attribute [local go_sem] Oper.semAt_some
theorem bk_block (a : Addr) (n : Nat) : (a.add n).block = a.block := by unfold Addr.add; split <;> rfl
def bkSeq (l : List Int) (k : Nat) : List (Nat × Int) := (List.range k).map fun j => (l.length - 1 - j, l[l.length - 1 - j]?.getD 0)
theorem bkSeq_succ (l : List Int) (k : Nat) : bkSeq l (k + 1) = bkSeq l k ++ [(l.length - 1 - k, l[l.length - 1 - k]?.getD 0)] := by simp [bkSeq, List.range_succ]
theorem bkSeq_length (l : List Int) (k : Nat) : (bkSeq l k).length = k := by simp [bkSeq]
def BkInts (n₀ : Nat) (W : World) (sv : Value) (zs : List Int) : Prop :=
  (∃ a cap, sv = .slice a 0 cap ∧ zs = []) ∨ ∃ ad cap, sv = .slice (some ad) zs.length cap ∧ ad.block < n₀ ∧ ∀ j, j < zs.length → W.cell? (ad.add j) = some (.int .u32 (zs[j]?.getD 0))
theorem BkInts.below {n₀ : Nat} {A B : World} (h : Below n₀ A B) {sv : Value} {zs : List Int} : BkInts n₀ A sv zs → BkInts n₀ B sv zs
  | .inl e => .inl e
  | .inr ⟨ad, cap, e, hb, hc⟩ => .inr ⟨ad, cap, e, hb, fun j hj => (h.cell (p := ad.add j) (by rw [bk_block]; exact hb)).trans (hc j hj)⟩
def BkK (n₀ Bs : Nat) (A B : World) : Prop := Below n₀ A B ∧ B.heap[Bs]? = A.heap[Bs]?
theorem BkK.refl (n₀ Bs : Nat) (A : World) : BkK n₀ Bs A A := ⟨Below.refl _ _, rfl⟩
theorem BkK.trans {n₀ Bs : Nat} {A B C : World} (h : BkK n₀ Bs A B) (k : BkK n₀ Bs B C) : BkK n₀ Bs A C := ⟨h.1.trans k.1, k.2.trans h.2⟩
theorem BkK.box {n₀ Bs : Nat} {A B : World} (h : BkK n₀ Bs A B) : B.cell? ⟨Bs, 0, none⟩ = A.cell? ⟨Bs, 0, none⟩ := by unfold World.cell?; rw [h.2]
set_option maxRecDepth 100000 in
set_option maxHeartbeats 2000000 in
theorem back1_in (F : Fence) (n : Nat) (h8 : F.fn 84) (hro : F.round = none) (hn : 1 ≤ n) (l Bs n₀ : Nat) (ad : Addr) (cap : Nat) (zs : List Int) (hreach : zs.length ≤ 2) (hb : ad.block < n₀) (J Jx : List (Nat × Int) → World → Prop)
    (hY : ∀ pre x W, J pre W → pre.length < zs.length → YieldAt F (n - 1) Tryd.prog l #[.int .i64 (x.1 : Int), .int .u32 x.2] W fun e W' =>
      (e = .returned (.bool true) ∧ J (pre ++ [x]) W' ∧ BkK n₀ Bs W W') ∨ (e = .returned (.bool false) ∧ Jx (pre ++ [x]) W'))
    (W : World) (hBs : W.cell? ⟨Bs, 0, none⟩ = some (.slice (some ad) zs.length cap)) (hc : ∀ j, j < zs.length → W.cell? (ad.add j) = some (.int .u32 (zs[j]?.getD 0))) (h0 : J [] W) :
    CallsIn F n Tryd.prog 84 #[.func (.yield l) #[] #[], .pointer (some ⟨Bs, 0, none⟩)] W fun e W' => (∃ v, e = .returned v) ∧
      ((∃ ys, ys = bkSeq zs zs.length ∧ J ys W') ∨ (∃ pre, (∃ k, k ≤ zs.length ∧ pre = bkSeq zs k) ∧ Jx pre W')) := by
  refine callsIn_of_wp Tryd.func84 rfl h8 ?_ hro
  simp only [Tryd.ntmps84, List.size_toArray, List.length_cons, List.length_nil, Nat.reduceAdd, Nat.reduceSub, Array.replicate_succ, Array.replicate_zero, List.push_toArray, List.append_toArray, List.nil_append, List.cons_append]
  have hw : wrap64 ((zs.length : Int) - 1) = (zs.length : Int) - 1 := by unfold wrap64; omega
  gi_wp2
  gi_loopw [3] (fun i wr => ∃ k : Nat, k ≤ zs.length ∧ i = .int .i64 ((zs.length : Int) - 1 - k) ∧ J (bkSeq zs k) wr ∧ BkK n₀ Bs W wr)
    (fun i _ => (intOf i + 1).toNat)
  case atStart => exact ⟨0, Nat.zero_le _, by simp, h0, BkK.refl _ _ _⟩
  case round =>
    obtain ⟨k, hk, rfl, hJs, hnx⟩ := hrel
    have hbs : wr.cell? ⟨Bs, 0, none⟩ = some (.slice (some ad) zs.length cap) := hnx.box.trans hBs
    by_cases hlt : k < zs.length
    · have e1 : (zs.length : Int) - 1 - (k : Int) = ((zs.length - 1 - k : Nat) : Int) := by omega
      have hcx' : wr.cell? (ad.add (zs.length - 1 - k)) = some (.int .u32 (zs[zs.length - 1 - k]?.getD 0)) := (hnx.1.cell (p := ad.add (zs.length - 1 - k)) (by rw [bk_block]; exact hb)).trans (hc _ (by omega))
      have hS := bkSeq_succ zs k
      obtain ⟨fn, tmps, assign, body, hy, hR⟩ := hY _ (zs.length - 1 - k, zs[zs.length - 1 - k]?.getD 0) wr hJs (by rw [bkSeq_length]; exact hlt)
      dsimp only at hy hR
      obtain ⟨m, hm⟩ : ∃ m, m = zs.length - 1 - k := ⟨_, rfl⟩
      rw [← hm] at hcx' hy hR hS e1
      obtain ⟨x, hx⟩ : ∃ x, x = zs[m]?.getD 0 := ⟨_, rfl⟩
      rw [← hx] at hcx' hy hR hS
      have hx' := Lib.hid hx
      clear hx
      have hm2 : m < zs.length := by omega
      have hm3 : k + m + 1 = zs.length := by omega
      rw [e1]
      have hw2 : wrap64 ((m : Int) - 1) = (m : Int) - 1 := by unfold wrap64; omega
      have hS' := Lib.hid hS
      have e1' := Lib.hid e1
      have hm' := Lib.hid hm
      have hm3' := Lib.hid hm3
      clear hS e1 hm hm3
      gi_wp2
      refine hR.mono ?_
      rintro e W3 (⟨rfl, hJ3, hk3⟩ | ⟨rfl, hJx3⟩)
      · gi_wp2
        go_roundw
        case rel => exact ⟨k + 1, by omega, by have := hm3'.out; congr 1; omega, by rw [hS'.out]; exact hJ3, hnx.trans hk3⟩
        case measure => first | (simp [intOf]; done) | (simp [intOf]; omega)
      · gi_wp2
        refine bodyPost_ret (results_none rfl _ _ _) rfl ?_
        exact ⟨⟨_, rfl⟩, .inr ⟨_, ⟨k + 1, by omega, hS'.out.symm⟩, hJx3⟩⟩
    · obtain rfl : k = zs.length := by omega
      have e1 : (zs.length : Int) - 1 - (zs.length : Int) = -1 := by omega
      rw [e1]
      gi_wp2
      go_end0
      exact ⟨⟨_, rfl⟩, .inl ⟨_, rfl, hJs⟩⟩
set_option maxRecDepth 100000 in
set_option maxHeartbeats 1000000 in
theorem back1_nil_in (F : Fence) (n : Nat) (h7 : F.fn 84) (hro : F.round = none) (l Bs : Nat) (a : Option Addr) (cap : Nat) (J : List (Nat × Int) → World → Prop) (W : World) (hBs : W.cell? ⟨Bs, 0, none⟩ = some (.slice a 0 cap)) (h0 : J [] W) :
    CallsIn F n Tryd.prog 84 #[.func (.yield l) #[] #[], .pointer (some ⟨Bs, 0, none⟩)] W fun e W' => (∃ v, e = .returned v) ∧ J [] W' := by
  refine callsIn_of_wp Tryd.func84 rfl h7 ?_ hro
  simp only [Tryd.ntmps84, List.size_toArray, List.length_cons, List.length_nil, Nat.reduceAdd, Nat.reduceSub, Array.replicate_succ, Array.replicate_zero, List.push_toArray, List.append_toArray, List.nil_append, List.cons_append]
  gi_wp2
  gi_loopw [3] (fun i wr => i = .int .i64 (-1) ∧ J [] wr) (fun _ _ => 0)
  case atStart => exact ⟨rfl, h0⟩
  case round =>
    obtain ⟨rfl, hJs⟩ := hrel
    gi_wp2
    go_end0
    exact ⟨⟨_, rfl⟩, hJs⟩
set_option maxHeartbeats 1000000 in
theorem back_in (F : Fence) (n : Nat) (h5 : F.fn 67) (hro : F.round = none) (a : Option Addr) (len cap : Nat) (w : World) :
    CallsIn F n Tryd.prog 67 #[.slice a len cap] w fun e w' => e = .returned (.func (.func 84) #[] #[.pointer (some ⟨w.heap.size, 0, none⟩)]) ∧ w' = w.alloc (.cells #[.slice a len cap] 25) := by
  refine callsIn_of_wp Tryd.func67 rfl h5 ?_ hro
  simp only [Tryd.ntmps67, List.size_toArray, List.length_cons, List.length_nil, Nat.reduceAdd, Nat.reduceSub, Array.replicate_succ, Array.replicate_zero, List.push_toArray, List.append_toArray, List.nil_append, List.cons_append]
  gi_wp2
  go_ret
  exact ⟨rfl, rfl⟩
theorem back_stops (F : Fence) (n : Nat) (h8 : F.fn 84) (hro : F.round = none) (hn : 1 ≤ n) (Bs n₀ : Nat) (sv : Value) (zs : List Int) (hreach : zs.length ≤ 2) (w : World) (hBs : Bs < w.heap.size) (hn₀ : n₀ ≤ w.heap.size)
    (hc : w.cell? ⟨Bs, 0, none⟩ = some sv) (hI : BkInts n₀ w sv zs) :
    SeqStopsK F n Tryd.prog 84 #[.pointer (some ⟨Bs, 0, none⟩)] (fun x : Nat × Int => #[Value.int .i64 (x.1 : Int), Value.int .u32 x.2]) (BkK n₀ Bs) (fun ys => ys = bkSeq zs zs.length)
      (fun pre => ∃ k, k ≤ zs.length ∧ pre = bkSeq zs k) zs.length w := fun l J Jx W hW _ _ hY h0 => by
  have hc' := (hW.cell (p := ⟨Bs, 0, none⟩) hBs).trans hc
  rcases hI.below (hW.mono hn₀) with ⟨a, cap, rfl, rfl⟩ | ⟨ad, cap, rfl, hb, hcs⟩
  · exact (back1_nil_in F n h8 hro l Bs a cap J W hc' h0).mono fun e W' ⟨he, hj⟩ => ⟨he, .inl ⟨_, rfl, hj⟩⟩
  · exact back1_in F n h8 hro hn l Bs n₀ ad cap zs hreach hb J Jx hY W hc' hcs h0
theorem BkInts.of_C {W : World} {A0 : Option Addr} {c0 : Nat} {l0 : List Int} (hr0 : Kd.C (Kd.int .u32) W A0 l0.length l0) (hc0 : l0.length ≤ c0) : BkInts W.heap.size W (.slice A0 l0.length c0) l0 := by
  rcases Nat.eq_zero_or_pos l0.length with h0 | h0
  · exact .inl ⟨A0, c0, by rw [h0], List.eq_nil_of_length_eq_zero h0⟩
  · obtain ⟨ad, e, hx⟩ := Kd.at_int hr0 0 (by omega) (by omega)
    refine .inr ⟨ad, c0, by rw [e], ?_, fun j hj => ?_⟩
    · have h2 := World.block_lt_of_cell? _ _ hx
      rwa [bk_block] at h2
    · obtain ⟨ad', e', hx'⟩ := Kd.at_int hr0 (j : Int) (by omega) (by omega)
      rw [e] at e'
      cases e'
      rw [Int.toNat_natCast] at hx'
      rw [hx']
      simp [rd, hj]
theorem set_other (W : World) {p : Addr} (v : Value) {j : Nat} (h : p.block ≠ j) : (W.setCell p v).heap[j]? = W.heap[j]? := by
  unfold World.setCell
  split <;> simp [Array.getElem?_modify, h]
def fitS (s x : Int) : Int := Go.bits .or .u64 (IntKind.u64.wrap (s * 4294967296)) (IntKind.u64.wrap x)
def fitU (pre : List (Nat × Int)) : Int := pre.foldl (fun s p => fitS s p.2) 0
theorem fitU_snoc (pre : List (Nat × Int)) (x : Nat × Int) : fitU (pre ++ [x]) = fitS (fitU pre) x.2 := by simp [fitU]
def nat_Fits.f (l0 : List Int) : Option (Int × Bool) := (nat_Right.f l0).bind fun t => if t = true then (if (l0.length : Int) > 2 then some (0, false) else some (fitU (bkSeq l0 l0.length), true)) else some (0, false)
set_option maxHeartbeats 8000000 in
set_option maxRecDepth 100000 in
theorem nat_Fits.calls (A0 : Option Addr) (c0 : Nat) (l0 : List Int) (r1 : Int) (r2 : Bool) (w : World) (hr0 : Kd.C (Kd.int .u32) w A0 l0.length l0) (hc0 : l0.length ≤ c0) (h : nat_Fits.f l0 = some (r1, r2)) :
    Calls Tryd.prog 33 #[.slice A0 l0.length c0] w fun e w' => e = .returned (.tuple #[.int .u64 r1, .bool r2]) ∧ Below w.heap.size w w' := by
  unfold nat_Fits.f at h
  obtain ⟨t, ht, h⟩ := Option.bind_eq_some_iff.mp h
  have hR0 := nat_Right.calls A0 c0 l0 t w hr0 hc0 ht
  have hRt := Lib.hid ((callsIn_wide (n := 2)).mpr hR0)
  have HR := Aside0.mk hR0
  have hI := BkInts.of_C hr0 hc0
  have HR0 := Aside0.mk hr0
  have HC0 := Aside0.mk hc0
  clear hr0 ht hc0 hR0
  cases t with
  | false =>
    rw [if_neg (by decide)] at h
    simp only [Option.some.injEq, Prod.mk.injEq] at h
    obtain ⟨rfl, rfl⟩ := h
    go_enter Tryd.func33, Tryd.ntmps33
    go_wp2_with (go_at_call 32; refine HR.out.mono ?_; rintro e w' ⟨rfl, hd⟩; have HB := Aside0.mk hd.below; clear hd)
    go_ret2
    exact ⟨rfl, HB.out⟩
  | true =>
    rw [if_pos rfl] at h
    by_cases h2 : (l0.length : Int) > 2
    · rw [if_pos h2] at h
      simp only [Option.some.injEq, Prod.mk.injEq] at h
      obtain ⟨rfl, rfl⟩ := h
      have hd1 : decide ((2 : Int) < (l0.length : Int)) = true := decide_eq_true h2
      have hd2 : decide (2 < l0.length) = true := decide_eq_true (by omega)
      clear h2
      go_enter Tryd.func33, Tryd.ntmps33
      go_wp2_with (go_at_call 32; refine HR.out.mono ?_; rintro e w' ⟨rfl, hd⟩; have HB := Aside0.mk hd.below; clear hd)
      go_ret2
      exact ⟨rfl, HB.out⟩
    · rw [if_neg h2] at h
      simp only [Option.some.injEq, Prod.mk.injEq] at h
      obtain ⟨rfl, rfl⟩ := h
      have hd1 : decide ((2 : Int) < (l0.length : Int)) = false := decide_eq_false h2
      have hd2 : decide (2 < l0.length) = false := decide_eq_false (by omega)
      have hl2 : l0.length ≤ 2 := by omega
      refine callsIn_wide (n := 3).mp ?_
      obtain ⟨F, hFw⟩ : ∃ F : Fence, F = Fence.wide := ⟨_, rfl⟩
      have f1 : F.fn 32 := by rw [hFw]; trivial
      have f2 : F.fn 67 := by rw [hFw]; trivial
      have f3 : F.fn 84 := by rw [hFw]; trivial
      have f4 : F.fn 33 := by rw [hFw]; trivial
      have hro : F.round = none := by rw [hFw]; rfl
      rw [← hFw] at hRt ⊢
      clear hFw h2
      refine callsIn_of_wp_marks Tryd.func33 rfl f4 ?_ hro
      simp only [Tryd.ntmps33, List.size_toArray, List.length_cons, List.length_nil, Nat.reduceAdd, Nat.reduceSub, Array.replicate_succ, Array.replicate_zero, List.push_toArray, List.append_toArray, List.nil_append, List.cons_append]
      gi_wp2_with (first | (gi_at_call 32; refine hRt.out.mono ?_; rintro e w' ⟨rfl, hd⟩; have HB := Aside0.mk hd.below; clear hd) | (gi_at_call 67; refine (back_in F 2 f2 hro _ _ _ _).mono ?_; rintro e w2 ⟨rfl, rfl⟩))
      have bS := Boxed.new w' 44 (.int .u64 0)
      have bN := Boxed.new (w'.alloc (.cells #[.int .u64 0] 44)) 25 (.slice A0 l0.length c0)
      rw [World.size_alloc] at bN
      have hB0 : Below w'.heap.size w' ((w'.alloc (.cells #[.int .u64 0] 44)).alloc (.cells #[.slice A0 l0.length c0] 25)) := ((Below.refl _ w').alloc (Nat.le_refl _) _).alloc (by simp) _
      have hI1 := hI.below HB.out
      have hI2 : BkInts w'.heap.size ((w'.alloc (.cells #[.int .u64 0] 44)).alloc (.cells #[.slice A0 l0.length c0] 25)) (.slice A0 l0.length c0) l0 := by
        rcases hI1.below (hB0.mono HB.out.size) with ⟨a, cap, e, e2⟩ | ⟨ad, cap, e, hb, hc⟩
        · exact .inl ⟨a, cap, e, e2⟩
        · exact .inr ⟨ad, cap, e, Nat.lt_of_lt_of_le hb HB.out.size, hc⟩
      refine wpIn_rangeFunc_ownG hro (by decide) (gf := 84) (lb := #[.pointer (some ⟨w'.heap.size + 1, 0, none⟩)]) rfl f3 (enters_of Tryd.func84 (by kernel_rfl) rfl)
        (back_stops F 2 f3 hro (by omega) (w'.heap.size + 1) w'.heap.size _ l0 hl2 _ (by simp) (by simp; omega) bN.cell hI2) BkK.trans (fun W l o o' hl h h1 h2 => ⟨belowK_b (w := (w'.alloc (.cells #[.int .u64 0] 44)).alloc (.cells #[.slice A0 l0.length c0] 25)) (by simp; omega) W l o o' hl h h1 h2, ?bk⟩) (Below.refl _ _) (fun _ => rfl)
        (fun pre W => (W.cell? ⟨w'.heap.size, 0, none⟩ = some (.int .u64 (fitU pre)) ∧ W.frozen? ⟨w'.heap.size, 0, none⟩ = false) ∧ Below w'.heap.size w' W)
        (fun _ _ _ => False)
        (OwnFrom.and (Own.from (fun s A B row hs hg hr => ⟨cell_kept hs.1 hg hr, (frozen_kept hs.1 hg hr).trans hs.2⟩) _) (ownFrom_below (Nat.le_refl _) (by simp; omega)))
        (fun _ _ _ _ _ hs _ _ => hs)
        ⟨⟨(bS.alloc _).cell, (bS.alloc _).frozen⟩, hB0⟩
        (fun x => { tmps := #[.slice A0 l0.length c0, undef, .int .u64 0, .bool false, .pointer (some ⟨w'.heap.size, 0, none⟩), undef, .int .u32 x.2, .slice A0 l0.length c0, .bool true, .bool false, .bool false, .slice A0 l0.length c0, .int .i64 l0.length, .bool false, .bool false, .slice A0 l0.length c0, .func (.func 84) #[] #[.pointer (some ⟨w'.heap.size + 1, 0, none⟩)], .int .i64 (x.1 : Int), .int .u32 x.2, undef, undef, undef, undef, undef, undef], defers := [] }) ?assign ?body ?done ?stop
      case bk =>
        have hne : l ≠ w'.heap.size + 1 := by simp at hl; omega
        simp [World.putObj, hne]
      case assign =>
        intro l x W K hK
        gi_wp2
        exact hK
      case body =>
        rintro l pre x W ⟨⟨hc, hf⟩, hB⟩ _
        gi_wp2
        exact ⟨(KeepsOthers.setCell _ _ _).from _, ⟨(Below.refl w'.heap.size W).setCell (p := ⟨w'.heap.size, 0, none⟩) (Nat.le_refl _) _, set_other W _ (by show w'.heap.size ≠ w'.heap.size + 1; omega)⟩, ⟨by rw [fitU_snoc]; exact World.cell?_setCell_same' _ _ _ (by rw [hc]; rfl), by rw [World.frozen?_setCell]; exact hf⟩, hB.setCell (p := ⟨w'.heap.size, 0, none⟩) (Nat.le_refl _) _⟩
      case done =>
        rintro D ys W hD rfl ⟨⟨hc, _⟩, hB⟩ hK
        gi_wp2
        refine ⟨by simp, .inl ⟨_, _, rfl, run_takeDeferred hK, ?_⟩⟩
        exact ⟨_, by simp [results, Tryd.f33, go_sem], rfl, HB.out.trans ((hB.trans (belowK_b (w := w') (Nat.le_refl _) W D _ _ (by simp at hD; omega) hK rfl rfl)).mono HB.out.size)⟩
      case stop =>
        rintro D c pre W _ _ h _
        exact h.elim
end

end Go.Proofs.YtcidmdjhmhkmgaaDoor.S
