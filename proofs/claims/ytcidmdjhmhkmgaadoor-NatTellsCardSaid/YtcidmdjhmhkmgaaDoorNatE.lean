import Derived.Test.YtcidmdjhmhkmgaaDoorS1
import Derived.Test.YtcidmdjhmhkmgaaDoorS2
import Derived.Test.YtcidmdjhmhkmgaaDoorNatD
set_option linter.unusedVariables false
namespace Go.Proofs.YtcidmdjhmhkmgaaDoor.Pure
open Go.RowKit Go.Proofs.YtcidmdjhmhkmgaaDoorW.PrintWords Go.Proofs.YtcidmdjhmhkmgaaDoorW.PrintMore Go.Proofs.YtcidmdjhmhkmgaaDoor.S Go.Proofs.YtcidmdjhmhkmgaaDoor.L
theorem nat_at_eq {l : List Int} (hd : D32 l) (i : Nat) : nat_at.f l (i : Int) = some (l.getD i 0) := by
  unfold nat_at.f
  have h := hd.get K0 i
  by_cases hi : (i : Int) ≥ (l.length : Int)
  · rw [if_pos hi, getD_out (by omega)]
  · rw [if_neg hi, if_pos (by omega), if_pos (by omega), rd_nat, u64_id h.1 (by omega)]
/-! ### take: q times v off u, at place k -/
structure TkSt (u v x : List Int) (k : Nat) (q b c : Int) (i : Nat) : Prop where
  dg : D32 x
  len : x.length = u.length
  b0 : 0 ≤ b
  b1 : b ≤ 1
  c0 : 0 ≤ c
  c1 : c < 4294967296
  high : ∀ p, k + v.length < p → x.getD p 0 = u.getD p 0
  val : v32 x = v32 u - 4294967296 ^ k * (q * v32 (v.take i)) + 4294967296 ^ (k + i) * (c + b)
theorem take_loop {u v : List Int} (hu : D32 u) (hv : D32 v) (k : Nat) {q : Int} (q0 : 0 ≤ q) (q1 : q < 4294967296) (hl : k + v.length < u.length) (hm : u.length ≤ 100000) : ∀ i, i ≤ v.length + 1 → ∀ x b c, TkSt u v x k q b c i → (i = v.length + 1 → c = 0) →
    ∃ b' x', Ev (fun n => nat_take.l0 n x v (k : Int) q b c ((v.length : Int) + 1) (i : Int)) (b', x') ∧ D32 x' ∧ x'.length = u.length ∧ (∀ p, k + v.length < p → x'.getD p 0 = u.getD p 0) ∧ ∃ b : Int, 0 ≤ b ∧ b ≤ 1 ∧ b' = (b == 1) ∧ v32 x' = v32 u - 4294967296 ^ k * (q * v32 v) + 4294967296 ^ (k + v.length + 1) * b := by
  refine down (v.length + 1) ?_ ?_
  · intro x b c h hc
    have hc0 := hc rfl
    subst hc0
    refine ⟨b == 1, x, Ev.step (fun n => by simp only [nat_take.l0]; rfl) (ev_neg (by omega) ev_ret), h.dg, h.len, h.high, b, h.b0, h.b1, rfl, ?_⟩
    have e := h.val
    rw [List.take_of_length_le (by omega), Int.zero_add] at e
    exact e
  · intro i hi ih x b c h _
    have hx := h.dg.get K0 (k + i)
    have gv := hv.get K0 i
    have hlen := h.len
    have b0 := h.b0
    have b1 := h.b1
    have c0 := h.c0
    have c1 := h.c1
    have hqv0 : 0 ≤ q * v.getD i 0 := Int.mul_nonneg q0 gv.1
    have hqv1 : q * v.getD i 0 ≤ 4294967295 * 4294967295 := Int.mul_le_mul (by omega) (by omega) gv.1 (by omega)
    obtain ⟨s, hs⟩ : ∃ s, s = c + q * v.getD i 0 := ⟨_, rfl⟩
    obtain ⟨n, hn⟩ : ∃ n, n = x.getD (k + i) 0 - s % 4294967296 - b := ⟨_, rfl⟩
    have hs0 : 0 ≤ s := by omega
    have hs1 : s ≤ 18446744069414584320 := by omega
    obtain ⟨b', x', r1, r2, r3, rh, bb, r4, r5, r6, r7⟩ := ih (x.set (k + i) (n % 4294967296)) (sb n) (s / 4294967296) ⟨h.dg.set _ ⟨by omega, by omega⟩, by rw [List.length_set]; exact hlen, by unfold sb; split <;> omega, by unfold sb; split <;> omega, by omega, by omega, fun p hp => by rw [gset_ne (by omega)]; exact h.high p hp, by
      have hv := h.val
      show dv _ _ = dv _ _ - _ * (_ * dv _ _) + _
      have hv' : dv 4294967296 x = dv 4294967296 u - 4294967296 ^ k * (q * dv 4294967296 (v.take i)) + 4294967296 ^ (k + i) * (c + b) := hv
      rw [dv_set _ _ _ _ (by omega), dv_take_succ, hv', show k + (i + 1) = (k + i) + 1 by omega, Int.pow_succ, Int.pow_add]
      have e1 : n % 4294967296 = n + 4294967296 * sb n := by unfold sb; split <;> omega
      have e2 : s % 4294967296 = s - 4294967296 * (s / 4294967296) := by omega
      rw [e1, hn, e2, hs]
      grind⟩ (fun hE => by
        have hil : i = v.length := by omega
        rw [hil, getD_out (l := v) (Nat.le_refl _), Int.mul_zero] at hs
        omega)
    refine ⟨b', x', Ev.step (fun n => by simp only [nat_take.l0]; rfl) ?_, r2, r3, rh, bb, r4, r5, r6, r7⟩
    refine ev_pos (by omega) (ev_pure (nat_at_eq hv i) ?_)
    rw [addN (by omega)]
    refine ev_pos (by omega) (ev_pos (by omega) ?_)
    have es : IntKind.u64.wrap (c + IntKind.u64.wrap (q * v.getD i 0)) = s := by
      rw [u64_id (n := q * v.getD i 0) hqv0 (by omega), u64_id (by omega) (by omega), hs]
    have en : IntKind.u64.wrap (IntKind.u64.wrap (IntKind.u64.wrap (rd x ((k + i : Nat) : Int)) - Go.bits .and .u64 s 4294967295) - b) = n % 18446744073709551616 := by
      rw [rd_nat, u64_id (n := x.getD (k + i) 0) hx.1 (by omega), and32 hs0 (by omega), u64_mod, u64_mod, hn]
      omega
    rw [es, en, Lib.u64_and1 _ (by omega) (by omega), inc64 (by omega), Int.toNat_natCast]
    have e3 : n % 18446744073709551616 % 4294967296 = n % 4294967296 := by omega
    have e4 : n % 18446744073709551616 / 8589934592 % 2 = sb n := by unfold sb; split <;> omega
    rw [e3, e4]
    exact r1
theorem take_ev {u v : List Int} (hu : D32 u) (hv : D32 v) (k : Nat) {q : Int} (q0 : 0 ≤ q) (q1 : q < 4294967296) (hl : k + v.length < u.length) (hm : u.length ≤ 100000) :
    ∃ b' x', Ev (fun n => nat_take.f n u v (k : Int) q) (b', x') ∧ D32 x' ∧ x'.length = u.length ∧ (∀ p, k + v.length < p → x'.getD p 0 = u.getD p 0) ∧ ∃ b : Int, 0 ≤ b ∧ b ≤ 1 ∧ b' = (b == 1) ∧ v32 x' = v32 u - 4294967296 ^ k * (q * v32 v) + 4294967296 ^ (k + v.length + 1) * b := by
  obtain ⟨b', x', r1, r⟩ := take_loop hu hv k q0 q1 hl hm 0 (by omega) u 0 0 ⟨hu, rfl, by decide, by decide, by decide, by decide, fun _ _ => rfl, by
    show dv _ _ = dv _ _ - _ * (_ * dv _ _) + _
    simp [dv]⟩ (fun h => by omega)
  refine ⟨b', x', ?_, r⟩
  unfold nat_take.f
  rw [show wrap64 ((v.length : Int) + 1) = (v.length : Int) + 1 by unfold wrap64; omega]
  exact r1
/-! ### back: v put back on u, at place k -/
structure BkSt (u v x : List Int) (k : Nat) (c : Int) (i : Nat) : Prop where
  dg : D32 x
  len : x.length = u.length
  c0 : 0 ≤ c
  c1 : c ≤ 1
  high : ∀ p, k + v.length < p → x.getD p 0 = u.getD p 0
  val : v32 x + 4294967296 ^ (k + i) * c = v32 u + 4294967296 ^ k * v32 (v.take i)
theorem back_loop {u v : List Int} (hu : D32 u) (hv : D32 v) (k : Nat) (hl : k + v.length < u.length) (hm : u.length ≤ 100000) : ∀ i, i ≤ v.length + 1 → ∀ x c, BkSt u v x k c i →
    ∃ x', Ev (fun n => nat_back.l0 n x v (k : Int) c ((v.length : Int) + 1) (i : Int)) x' ∧ D32 x' ∧ x'.length = u.length ∧ (∀ p, k + v.length < p → x'.getD p 0 = u.getD p 0) ∧ ∃ c : Int, 0 ≤ c ∧ c ≤ 1 ∧ v32 x' + 4294967296 ^ (k + v.length + 1) * c = v32 u + 4294967296 ^ k * v32 v := by
  refine down (v.length + 1) ?_ ?_
  · intro x c h
    refine ⟨x, Ev.step (fun n => by simp only [nat_back.l0]; rfl) (ev_neg (by omega) ev_ret), h.dg, h.len, h.high, c, h.c0, h.c1, ?_⟩
    have e := h.val
    rw [List.take_of_length_le (by omega)] at e
    exact e
  · intro i hi ih x c h
    have hx := h.dg.get K0 (k + i)
    have gv := hv.get K0 i
    have hlen := h.len
    have c0 := h.c0
    have c1 := h.c1
    obtain ⟨s, hs⟩ : ∃ s, s = c + (x.getD (k + i) 0 + v.getD i 0) := ⟨_, rfl⟩
    obtain ⟨x', r1, r⟩ := ih (x.set (k + i) (s % 4294967296)) (s / 4294967296) ⟨h.dg.set _ ⟨by omega, by omega⟩, by rw [List.length_set]; exact hlen, by omega, by omega, fun p hp => by rw [gset_ne (by omega)]; exact h.high p hp, by
      have hv := h.val
      show dv _ _ + _ = dv _ _ + _ * dv _ _
      have hv' : dv 4294967296 x + 4294967296 ^ (k + i) * c = dv 4294967296 u + 4294967296 ^ k * dv 4294967296 (v.take i) := hv
      rw [dv_set _ _ _ _ (by omega), dv_take_succ, show k + (i + 1) = (k + i) + 1 by omega, Int.pow_succ, Int.pow_add]
      rw [Int.pow_add] at hv'
      have e2 : s % 4294967296 = s - 4294967296 * (s / 4294967296) := by omega
      rw [e2, hs]
      grind⟩
    refine ⟨x', Ev.step (fun n => by simp only [nat_back.l0]; rfl) ?_, r⟩
    refine ev_pos (by omega) ?_
    rw [addN (by omega)]
    refine ev_pos (by omega) (ev_pos (by omega) (ev_pure (nat_at_eq hv i) ?_))
    rw [rd_nat, u64_id (n := x.getD (k + i) 0) hx.1 (by omega), u64_id (n := x.getD (k + i) 0 + v.getD i 0) (by omega) (by omega), u64_id (by omega) (by omega), ← hs, Int.toNat_natCast, inc64 (by omega)]
    exact r1
theorem back_ev {u v : List Int} (hu : D32 u) (hv : D32 v) (k : Nat) (hl : k + v.length < u.length) (hm : u.length ≤ 100000) :
    ∃ x', Ev (fun n => nat_back.f n u v (k : Int)) x' ∧ D32 x' ∧ x'.length = u.length ∧ (∀ p, k + v.length < p → x'.getD p 0 = u.getD p 0) ∧ ∃ c : Int, 0 ≤ c ∧ c ≤ 1 ∧ v32 x' + 4294967296 ^ (k + v.length + 1) * c = v32 u + 4294967296 ^ k * v32 v := by
  obtain ⟨x', r1, r⟩ := back_loop hu hv k hl hm 0 (by omega) u 0 ⟨hu, rfl, by decide, by decide, fun _ _ => rfl, by
    show dv _ _ + _ = dv _ _ + _ * dv _ _
    simp [dv]⟩
  refine ⟨x', ?_, r⟩
  unfold nat_back.f
  rw [show wrap64 ((v.length : Int) + 1) = (v.length : Int) + 1 by unfold wrap64; omega]
  exact r1
/-! ### guess -/
theorem guess_j1 {u v : List Int} (hv : D32 v) (k n : Nat) (hn : n = v.length) (h2 : 2 ≤ n) (hm : n ≤ 100000) {v1 q rest : Int} (e1 : v1 = v.getD (n - 1) 0) (q0 : 1 ≤ q) (q1 : q ≤ 4294967298) (r0 : 0 ≤ rest) (r1 : rest < 4294967296) {g : Int}
    (hb : rest + v1 ≥ 4294967296 → g = q - 1) (hc : rest + v1 < 4294967296 → Ev (fun m => nat_guess.l0 m u v (k : Int) (n : Int) (q - 1) (rest + v1)) g) : Ev (fun m => nat_guess.j1 m u v (k : Int) (n : Int) q rest true) g := by
  have gv := hv.get K0 (n - 1)
  rw [← e1] at gv
  have ew : wrap64 ((n : Int) - 1) = ((n - 1 : Nat) : Int) := by unfold wrap64; omega
  refine Ev.step (fun m => by simp only [nat_guess.j1]; rfl) (ev_pos (c := true = true) rfl ?_)
  rw [ew]
  refine ev_pos (by omega) (ev_pos (by omega) ?_)
  rw [rd_nat, ← e1, u64_id (n := v1) gv.1 (by omega), u64_id (n := rest + v1) (by omega) (by omega), u64_id (n := q - 1) (by omega) (by omega)]
  by_cases h : rest + v1 ≥ 4294967296
  · rw [hb h]; exact ev_pos h ev_ret
  · exact ev_neg h (hc (by omega))
theorem guess_loop {u v : List Int} (hu : D32 u) (hv : D32 v) (k n : Nat) (hn : n = v.length) (h2 : 2 ≤ n) (hl : k + n < u.length) (hm : u.length ≤ 100000) {v1 v2 t u2 Q : Int} (e1 : v1 = v.getD (n - 1) 0) (e2 : v2 = v.getD (n - 2) 0) (e3 : u2 = u.getD (k + n - 2) 0)
    (ht : t < v1 * 4294967296 + 4294967296) (hQ0 : 0 ≤ Q) (hstop : ∀ q, q ≥ 4294967296 ∨ q * (v1 * 4294967296 + v2) > t * 4294967296 + u2 → Q < q) : ∀ (d : Nat) (q rest : Int), q - Q = (d : Int) → t = q * v1 + rest → 0 ≤ rest → rest < 4294967296 → q ≤ 4294967298 →
    ∃ g, Ev (fun m => nat_guess.l0 m u v (k : Int) (n : Int) q rest) g ∧ Q ≤ g ∧ g < 4294967296 ∧ (g * (v1 * 4294967296 + v2) ≤ t * 4294967296 + u2 ∨ t - g * v1 ≥ 4294967296) := by
  have gv1 := hv.get K0 (n - 1)
  rw [← e1] at gv1
  have gv2 := hv.get K0 (n - 2)
  rw [← e2] at gv2
  have gu := hu.get K0 (k + n - 2)
  rw [← e3] at gu
  have ew : wrap64 ((n : Int) - 2) = ((n - 2 : Nat) : Int) := by unfold wrap64; omega
  have ew2 : wrap64 (wrap64 ((k : Int) + (n : Int)) - 2) = ((k + n - 2 : Nat) : Int) := by rw [addN (by omega)]; unfold wrap64; omega
  have down1 : ∀ q : Int, Q < q → ∀ rest, t = q * v1 + rest → t - (q - 1) * v1 = rest + v1 := fun q _ rest e => by rw [e]; grind
  have lt1 : ∀ q rest : Int, t = q * v1 + rest → rest + v1 ≥ 4294967296 → q - 1 < 4294967296 := fun q rest e h => by
    refine Int.lt_of_not_ge fun hq => ?_
    have m1 : 4294967296 * v1 ≤ (q - 1) * v1 := Int.mul_le_mul_of_nonneg_right hq gv1.1
    have m2 : (q - 1) * v1 = q * v1 - v1 := by grind
    omega
  intro d
  induction d with
  | zero =>
    intro q rest hd he r0 r1 hq
    have hqe : q = Q := by omega
    have n1 : ¬ q ≥ 4294967296 := fun h => by have := hstop q (.inl h); omega
    have n2 : ¬ q * (v1 * 4294967296 + v2) > t * 4294967296 + u2 := fun h => by have := hstop q (.inr h); omega
    have hv2 : 0 ≤ q * v2 := Int.mul_nonneg (by omega) gv2.1
    have hv2b : q * v2 ≤ 4294967295 * 4294967295 := Int.mul_le_mul (by omega) (by omega) gv2.1 (by omega)
    have hx : q * (v1 * 4294967296 + v2) = (q * v1) * 4294967296 + q * v2 := by grind
    refine ⟨q, Ev.step (fun m => by simp only [nat_guess.l0]; rfl) (ev_neg n1 ?_), by omega, by omega, .inl (by omega)⟩
    rw [ew, ew2]
    refine ev_pos (by omega) (ev_pos (by omega) (ev_pos (by omega) (ev_pos (by omega) ?_)))
    rw [rd_nat, rd_nat, ← e2, ← e3, u64_id (n := v2) gv2.1 (by omega), u64_id (n := u2) gu.1 (by omega), u64_id (n := q * v2) hv2 (by omega), u64_id (n := rest * 4294967296) (by omega) (by omega), or32 (by omega) (by omega) (by omega) gu.1 gu.2]
    rw [decide_eq_false (by omega)]
    exact Ev.step (fun m => by simp only [nat_guess.j1]; rfl) (ev_neg (by decide) ev_ret)
  | succ d ih =>
    intro q rest hd he r0 r1 hq
    have hlow : Q < q := by omega
    have hgo : ∃ g, Ev (fun m => nat_guess.j1 m u v (k : Int) (n : Int) q rest true) g ∧ Q ≤ g ∧ g < 4294967296 ∧ (g * (v1 * 4294967296 + v2) ≤ t * 4294967296 + u2 ∨ t - g * v1 ≥ 4294967296) := by
      have hdn := down1 q hlow rest he
      by_cases h : rest + v1 ≥ 4294967296
      · exact ⟨q - 1, guess_j1 hv k n hn h2 (by omega) e1 (by omega) hq r0 r1 (fun _ => rfl) (fun h' => absurd h (by omega)), by omega, lt1 q rest he h, .inr (by omega)⟩
      · obtain ⟨g, g1, g2⟩ := ih (q - 1) (rest + v1) (by omega) (by omega) (by omega) (by omega) (by omega)
        exact ⟨g, guess_j1 hv k n hn h2 (by omega) e1 (by omega) hq r0 r1 (fun h' => absurd h' h) (fun _ => g1), g2⟩
    by_cases n1 : q ≥ 4294967296
    · obtain ⟨g, g1, g2⟩ := hgo
      exact ⟨g, Ev.step (fun m => by simp only [nat_guess.l0]; rfl) (ev_pos n1 g1), g2⟩
    · have hv2 : 0 ≤ q * v2 := Int.mul_nonneg (by omega) gv2.1
      have hv2b : q * v2 ≤ 4294967295 * 4294967295 := Int.mul_le_mul (by omega) (by omega) gv2.1 (by omega)
      have hx : q * (v1 * 4294967296 + v2) = (q * v1) * 4294967296 + q * v2 := by grind
      have hstep : ∀ g, Ev (fun m => nat_guess.j1 m u v (k : Int) (n : Int) q rest (decide (q * v2 > rest * 4294967296 + u2))) g → Ev (fun m => nat_guess.l0 m u v (k : Int) (n : Int) q rest) g := fun g hg => by
        refine Ev.step (fun m => by simp only [nat_guess.l0]; rfl) (ev_neg n1 ?_)
        rw [ew, ew2]
        refine ev_pos (by omega) (ev_pos (by omega) (ev_pos (by omega) (ev_pos (by omega) ?_)))
        rw [rd_nat, rd_nat, ← e2, ← e3, u64_id (n := v2) gv2.1 (by omega), u64_id (n := u2) gu.1 (by omega), u64_id (n := q * v2) hv2 (by omega), u64_id (n := rest * 4294967296) (by omega) (by omega), or32 (by omega) (by omega) (by omega) gu.1 gu.2]
        exact hg
      by_cases n2 : q * v2 > rest * 4294967296 + u2
      · obtain ⟨g, g1, g2⟩ := hgo
        exact ⟨g, hstep g (by rw [decide_eq_true n2]; exact g1), g2⟩
      · refine ⟨q, hstep q (by rw [decide_eq_false n2]; exact Ev.step (fun m => by simp only [nat_guess.j1]; rfl) (ev_neg (by decide) ev_ret)), by omega, by omega, .inl (by omega)⟩
end Go.Proofs.YtcidmdjhmhkmgaaDoor.Pure
