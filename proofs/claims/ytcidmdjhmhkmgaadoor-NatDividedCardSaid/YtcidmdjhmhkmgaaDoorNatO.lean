import Derived.Test.YtcidmdjhmhkmgaaDoorS10
import Derived.Test.YtcidmdjhmhkmgaaDoorS3
import Derived.Test.YtcidmdjhmhkmgaaDoorProd
import Derived.Test.YtcidmdjhmhkmgaaDoorNatL
set_option linter.unusedVariables false
namespace Go.Proofs.YtcidmdjhmhkmgaaDoor.Pure
open Go.RowKit Go.Proofs.YtcidmdjhmhkmgaaDoorW.PrintWords Go.Proofs.YtcidmdjhmhkmgaaDoorW.PrintMore Go.Proofs.YtcidmdjhmhkmgaaDoor.S Go.Proofs.YtcidmdjhmhkmgaaDoor.L
theorem alive_ev : Ev (fun k => cashbooklaw01_alive.f k) true := ev_some cashbooklaw01_alive.mono ⟨_, cashbooklaw01_alive.now⟩
theorem Compare_ev {a b : List Int} (ha : C32 a) (hb : C32 b) (h1 : a.length ≤ 256) (h2 : b.length ≤ 256) : Ev (fun k => nat_Compare.f k a b) (sgn (v32 a) (v32 b)) := by
  unfold nat_Compare.f
  refine ev_pure (Right_eq (by omega)) (ev_pos (by simpa using (cn_rt ha).2 h1) (ev_pure (Right_eq (by omega)) (ev_pos (by simpa using (cn_rt hb).2 h2) ?_)))
  exact ev_call (order_ev ha hb (by omega) (by omega)) ev_ret
theorem vlt {a : List Int} (ha : C32 a) {n : Nat} (h : a.length ≤ n) : v32 a < 4294967296 ^ n := (cn_len_le K1 ha).1 h
theorem Add_ok {a b : List Int} (ha : C32 a) (hb : C32 b) {n : Nat} (h1 : a.length ≤ n) (h2 : b.length ≤ n) (hn : n ≤ 250) : ∃ r, Ev (fun k => nat_Add.f k a b) (r, 0) ∧ C32 r ∧ v32 r = v32 a + v32 b ∧ r.length ≤ n + 1 := by
  have hlt : v32 a + v32 b < 4294967296 ^ (n + 1) := by
    have e1 := vlt ha h1
    have e2 := vlt hb h2
    have e3 := pow_pos_ K0 n
    rw [Int.pow_succ]
    omega
  obtain ⟨r, e, p1, p2⟩ := Add_ev ha.dg hb.dg (by omega) (by omega)
  have hp := pow_mono (B := 4294967296) (by decide) (show n + 1 ≤ 256 by omega)
  rcases p2 with ⟨h, _⟩ | ⟨_, _, ⟨_, q1, q2, rfl⟩ | ⟨q, _⟩⟩
  · exact absurd ⟨(cn_rt ha).2 (by omega), (cn_rt hb).2 (by omega)⟩ h
  · exact ⟨r, p1, q1, q2, (cn_len_le K1 q1).2 (by have q2' : dv 4294967296 r = v32 a + v32 b := q2; rw [q2']; exact hlt)⟩
  · exact absurd q (by omega)
theorem Mul_ok {a b : List Int} (ha : C32 a) (hb : C32 b) {m n : Nat} (h1 : a.length ≤ m) (h2 : b.length ≤ n) (hn : m + n ≤ 250) : ∃ r, Ev (fun k => nat_Mul.f k a b) (r, 0) ∧ C32 r ∧ v32 r = v32 a * v32 b ∧ r.length ≤ m + n := by
  have hlt : v32 a * v32 b < 4294967296 ^ (m + n) := by
    have e1 := vlt ha h1
    have e2 := vlt hb h2
    have e3 : 0 ≤ v32 a := dv_nonneg K0 ha.dg
    have e4 : 0 ≤ v32 b := dv_nonneg K0 hb.dg
    rw [Int.pow_add]
    have g1 : v32 a * v32 b ≤ v32 a * 4294967296 ^ n := Int.mul_le_mul_of_nonneg_left (by omega) e3
    have g2 : v32 a * 4294967296 ^ n < 4294967296 ^ m * 4294967296 ^ n := Int.mul_lt_mul_of_pos_right e1 (pow_pos_ K0 n)
    omega
  obtain ⟨r, e, p1, p2⟩ := Mul_ev ha.dg hb.dg (by omega) (by omega)
  have hp := pow_mono (B := 4294967296) (by decide) (show m + n ≤ 256 by omega)
  rcases p2 with ⟨h, _⟩ | ⟨_, _, ⟨_, q1, q2, rfl⟩ | ⟨q, _⟩⟩
  · exact absurd ⟨(cn_rt ha).2 (by omega), (cn_rt hb).2 (by omega)⟩ h
  · exact ⟨r, p1, q1, q2, (cn_len_le K1 q1).2 (by have q2' : dv 4294967296 r = v32 a * v32 b := q2; rw [q2']; exact hlt)⟩
  · exact absurd q (by omega)
theorem Sub_ok {a b : List Int} (ha : C32 a) (hb : C32 b) (h1 : a.length ≤ 256) (h2 : b.length ≤ 256) (hle : v32 b ≤ v32 a) : ∃ r, Ev (fun k => nat_Sub.f k a b) (r, 0) ∧ C32 r ∧ v32 r = v32 a - v32 b ∧ r.length ≤ 256 := by
  obtain ⟨r, e, p1, p2⟩ := Sub_ev ha.dg hb.dg (by omega) (by omega)
  rcases p2 with ⟨h, _⟩ | ⟨_, _, ⟨q, _⟩ | ⟨_, q1, q3, q2, rfl⟩⟩
  · exact absurd ⟨(cn_rt ha).2 h1, (cn_rt hb).2 h2⟩ h
  · exact absurd q (by omega)
  · exact ⟨r, p1, q1, q2, q3.1⟩
theorem right3 {a b c : List Int} (h1 : a.length ≤ 1000000000) (h2 : b.length ≤ 1000000000) (h3 : c.length ≤ 1000000000) : cashbooklaw01_right.f a b c = some (decide (a.length ≤ 60 ∧ b.length ≤ 60 ∧ c.length ≤ 60 ∧ rt a ∧ rt b ∧ rt c)) := by
  unfold cashbooklaw01_right.f
  rw [Right_eq h1, Right_eq h2, Right_eq h3]
  by_cases q1 : (a.length : Int) ≤ 60
  · rw [if_pos q1]
    by_cases q2 : (b.length : Int) ≤ 60
    · rw [if_pos q2]
      by_cases q3 : (c.length : Int) ≤ 60
      · rw [if_pos q3]
        by_cases r1 : rt a <;> by_cases r2 : rt b <;> by_cases r3 : rt c <;> simp [r1, r2, r3] <;> omega
      · rw [if_neg q3]; exact congrArg some (decide_eq_false (fun h => q3 (by omega))).symm
    · rw [if_neg q2]; exact congrArg some (decide_eq_false (fun h => q2 (by omega))).symm
  · rw [if_neg q1]; exact congrArg some (decide_eq_false (fun h => q1 (by omega))).symm
theorem right_ev (a b c : List Int) : cashbooklaw01_right.f a b c = some (decide (a.length ≤ 60 ∧ b.length ≤ 60 ∧ c.length ≤ 60 ∧ rt a ∧ rt b ∧ rt c)) := by
  by_cases hb : a.length ≤ 1000000000 ∧ b.length ≤ 1000000000 ∧ c.length ≤ 1000000000
  · exact right3 hb.1 hb.2.1 hb.2.2
  · rw [decide_eq_false (fun h => hb ⟨by omega, by omega, by omega⟩)]
    unfold cashbooklaw01_right.f
    by_cases q1 : (a.length : Int) ≤ 60
    · rw [if_pos q1]
      by_cases q2 : (b.length : Int) ≤ 60
      · rw [if_pos q2, if_neg (by omega)]
      · rw [if_neg q2]
    · rw [if_neg q1]
theorem same32 {a b : List Int} (ha : C32 a) (hb : C32 b) (h : v32 a = v32 b) : a = b := cn_unique K0 ha hb h
theorem v0 {a : List Int} (ha : C32 a) : 0 ≤ v32 a := dv_nonneg K0 ha.dg
/-- What goes in, and the rest, are one. -/
theorem div_unique {a b q r q' r' : Int} (h1 : a = b * q + r) (h2 : a = b * q' + r') (r0 : 0 ≤ r) (r1 : r < b) (s0 : 0 ≤ r') (s1 : r' < b) : q = q' ∧ r = r' := by
  have e1 : a / b = q := by
    rw [h1, Int.add_comm, Int.add_mul_ediv_left _ _ (by omega), Int.ediv_eq_zero_of_lt r0 r1, Int.zero_add]
  have e2 : a / b = q' := by
    rw [h2, Int.add_comm, Int.add_mul_ediv_left _ _ (by omega), Int.ediv_eq_zero_of_lt s0 s1, Int.zero_add]
  have e : q = q' := by rw [← e1, e2]
  subst e
  exact ⟨rfl, by omega⟩
theorem len_le_v {a b : List Int} (ha : C32 a) (hb : C32 b) (h : v32 a ≤ v32 b) : a.length ≤ b.length := Nat.le_of_not_lt fun h1 => by
  have h2 := cn_len_lt K0 hb.dg ha h1
  have h' : dv 4294967296 a ≤ dv 4294967296 b := h
  omega
theorem DivMod_ok {a b : List Int} (ha : C32 a) (hb : C32 b) (h1 : a.length ≤ 256) (h2 : b.length ≤ 256) (h0 : b ≠ []) : ∃ q r, Ev (fun k => nat_DivMod.f k a b) (q, r, 0) ∧ C32 q ∧ C32 r ∧ v32 a = v32 b * v32 q + v32 r ∧ 0 ≤ v32 r ∧ v32 r < v32 b ∧ q.length ≤ a.length ∧ r.length ≤ b.length := by
  obtain ⟨q, r, e, p1, p2⟩ := DivMod_ev ha.dg hb.dg (by omega) (by omega)
  rcases p2 with ⟨h, _⟩ | ⟨_, _, ⟨h, _⟩ | ⟨_, c1, c2, c3, c4, c5, c6, c7, rfl⟩⟩
  · exact absurd ⟨(cn_rt ha).2 h1, (cn_rt hb).2 h2⟩ h
  · exact absurd h h0
  · refine ⟨q, r, p1, c1, c2, c5, c6, c7, len_le_v c1 ha ?_, len_le_v c2 hb (by omega)⟩
    have hbp := v_pos hb h0
    have h3 : 1 * v32 q ≤ v32 b * v32 q := Int.mul_le_mul_of_nonneg_right (by omega) (v0 c1)
    omega
theorem Gcd_ok {a b : List Int} (ha : C32 a) (hb : C32 b) (h1 : a.length ≤ 256) (h2 : b.length ≤ 256) : ∃ r, Ev (fun k => nat_Gcd.f k a b) (r, 0) ∧ C32 r ∧ v32 r = (Nat.gcd (nv a) (nv b) : Int) ∧ r.length ≤ max a.length b.length := by
  obtain ⟨r, e, p1, p2⟩ := Gcd_ev ha.dg hb.dg (by omega) (by omega)
  rcases p2 with ⟨h, _⟩ | ⟨_, _, c1, c2, c3, c4, rfl⟩
  · exact absurd ⟨(cn_rt ha).2 h1, (cn_rt hb).2 h2⟩ h
  · exact ⟨r, p1, c1, c3, c4⟩
end Go.Proofs.YtcidmdjhmhkmgaaDoor.Pure
