import Derived.Test.YtcidmdjhmhkmgaaDoorS18
import Derived.Test.YtcidmdjhmhkmgaaDoorS10
import Derived.Test.YtcidmdjhmhkmgaaDoorS3
import Derived.Test.YtcidmdjhmhkmgaaDoorProd
set_option linter.unusedVariables false
namespace Go.Proofs.YtcidmdjhmhkmgaaDoor.Pure
open Go.RowKit Go.Proofs.YtcidmdjhmhkmgaaDoorW.PrintWords Go.Proofs.YtcidmdjhmhkmgaaDoorW.PrintMore Go.Proofs.YtcidmdjhmhkmgaaDoor.S Go.Proofs.YtcidmdjhmhkmgaaDoor.L
theorem alive_ev : Ev (fun k => cashbooklaw01_alive.f k) true := ev_some cashbooklaw01_alive.mono ⟨_, cashbooklaw01_alive.now⟩
theorem Compare_ev {a b : List Int} (ha : C32 a) (hb : C32 b) (h1 : a.length ≤ 256) (h2 : b.length ≤ 256) : Ev (fun k => nat_Compare.f k a b) (sgn (v32 a) (v32 b)) := by
  unfold nat_Compare.f
  refine ev_pure (Right_eq (by omega)) (ev_pos (by simpa using (cn_rt ha).2 h1) (ev_pure (Right_eq (by omega)) (ev_pos (by simpa using (cn_rt hb).2 h2) ?_)))
  exact ev_call (order_ev ha hb (by omega) (by omega)) ev_ret
theorem vlt {a : List Int} (ha : C32 a) {n : Nat} (h : a.length ≤ n) : v32 a < 4294967296 ^ n := (cn_len_le K1 ha).1 h
theorem Add_ok {a b : List Int} (ha : C32 a) (hb : C32 b) {n : Nat} (h1 : a.length ≤ n) (h2 : b.length ≤ n) (hn : n ≤ 250) : ∃ r, Ev (fun k => nat_Add.f k a b) (r, 0) ∧ C32 r ∧ v32 r = v32 a + v32 b ∧ r.length ≤ n + 1 := by
  have hlt : v32 a + v32 b < 4294967296 ^ (n + 1) := by
    have e1 := vlt ha h1
    have e2 := vlt hb h2
    have e3 := pow_pos_ K0 n
    rw [Int.pow_succ]
    omega
  obtain ⟨r, e, p1, p2⟩ := Add_ev ha.dg hb.dg (by omega) (by omega)
  have hp := pow_mono (B := 4294967296) (by decide) (show n + 1 ≤ 256 by omega)
  rcases p2 with ⟨h, _⟩ | ⟨_, _, ⟨_, q1, q2, rfl⟩ | ⟨q, _⟩⟩
  · exact absurd ⟨(cn_rt ha).2 (by omega), (cn_rt hb).2 (by omega)⟩ h
  · exact ⟨r, p1, q1, q2, (cn_len_le K1 q1).2 (by have q2' : dv 4294967296 r = v32 a + v32 b := q2; rw [q2']; exact hlt)⟩
  · exact absurd q (by omega)
theorem Mul_ok {a b : List Int} (ha : C32 a) (hb : C32 b) {m n : Nat} (h1 : a.length ≤ m) (h2 : b.length ≤ n) (hn : m + n ≤ 250) : ∃ r, Ev (fun k => nat_Mul.f k a b) (r, 0) ∧ C32 r ∧ v32 r = v32 a * v32 b ∧ r.length ≤ m + n := by
  have hlt : v32 a * v32 b < 4294967296 ^ (m + n) := by
    have e1 := vlt ha h1
    have e2 := vlt hb h2
    have e3 : 0 ≤ v32 a := dv_nonneg K0 ha.dg
    have e4 : 0 ≤ v32 b := dv_nonneg K0 hb.dg
    rw [Int.pow_add]
    have g1 : v32 a * v32 b ≤ v32 a * 4294967296 ^ n := Int.mul_le_mul_of_nonneg_left (by omega) e3
    have g2 : v32 a * 4294967296 ^ n < 4294967296 ^ m * 4294967296 ^ n := Int.mul_lt_mul_of_pos_right e1 (pow_pos_ K0 n)
    omega
  obtain ⟨r, e, p1, p2⟩ := Mul_ev ha.dg hb.dg (by omega) (by omega)
  have hp := pow_mono (B := 4294967296) (by decide) (show m + n ≤ 256 by omega)
  rcases p2 with ⟨h, _⟩ | ⟨_, _, ⟨_, q1, q2, rfl⟩ | ⟨q, _⟩⟩
  · exact absurd ⟨(cn_rt ha).2 (by omega), (cn_rt hb).2 (by omega)⟩ h
  · exact ⟨r, p1, q1, q2, (cn_len_le K1 q1).2 (by have q2' : dv 4294967296 r = v32 a * v32 b := q2; rw [q2']; exact hlt)⟩
  · exact absurd q (by omega)
theorem Sub_ok {a b : List Int} (ha : C32 a) (hb : C32 b) (h1 : a.length ≤ 256) (h2 : b.length ≤ 256) (hle : v32 b ≤ v32 a) : ∃ r, Ev (fun k => nat_Sub.f k a b) (r, 0) ∧ C32 r ∧ v32 r = v32 a - v32 b ∧ r.length ≤ 256 := by
  obtain ⟨r, e, p1, p2⟩ := Sub_ev ha.dg hb.dg (by omega) (by omega)
  rcases p2 with ⟨h, _⟩ | ⟨_, _, ⟨q, _⟩ | ⟨_, q1, q3, q2, rfl⟩⟩
  · exact absurd ⟨(cn_rt ha).2 h1, (cn_rt hb).2 h2⟩ h
  · exact absurd q (by omega)
  · exact ⟨r, p1, q1, q2, q3.1⟩
theorem right3 {a b c : List Int} (h1 : a.length ≤ 1000000000) (h2 : b.length ≤ 1000000000) (h3 : c.length ≤ 1000000000) : cashbooklaw01_right.f a b c = some (decide (a.length ≤ 60 ∧ b.length ≤ 60 ∧ c.length ≤ 60 ∧ rt a ∧ rt b ∧ rt c)) := by
  unfold cashbooklaw01_right.f
  rw [Right_eq h1, Right_eq h2, Right_eq h3]
  by_cases q1 : (a.length : Int) ≤ 60
  · rw [if_pos q1]
    by_cases q2 : (b.length : Int) ≤ 60
    · rw [if_pos q2]
      by_cases q3 : (c.length : Int) ≤ 60
      · rw [if_pos q3]
        by_cases r1 : rt a <;> by_cases r2 : rt b <;> by_cases r3 : rt c <;> simp [r1, r2, r3] <;> omega
      · rw [if_neg q3]; exact congrArg some (decide_eq_false (fun h => q3 (by omega))).symm
    · rw [if_neg q2]; exact congrArg some (decide_eq_false (fun h => q2 (by omega))).symm
  · rw [if_neg q1]; exact congrArg some (decide_eq_false (fun h => q1 (by omega))).symm
theorem NatRing : cashbooklaw01_NatRing.Pure := by
  intro a b c la _ wa lb _ wb lc _ wc
  refine ev_rounds ?_
  have w0 : wrap64 0 = 0 := by unfold wrap64; omega
  unfold cashbooklaw01_NatRing.f
  by_cases hr : a.length ≤ 60 ∧ b.length ≤ 60 ∧ c.length ≤ 60 ∧ rt a ∧ rt b ∧ rt c
  · refine ev_pure (right3 (by omega) (by omega) (by omega)) (ev_pos (by simpa using hr) ?_)
    obtain ⟨h1, h2, h3, r1, r2, r3⟩ := hr
    have ca := rt_cn r1 (d32_of wa)
    have cb := rt_cn r2 (d32_of wb)
    have cc := rt_cn r3 (d32_of wc)
    obtain ⟨ab, p1, q1, v1, l1⟩ := Add_ok ca cb h1 h2 (by omega)
    obtain ⟨ba, p2, q2, v2, l2⟩ := Add_ok cb ca h2 h1 (by omega)
    obtain ⟨bc, p3, q3, v3, l3⟩ := Add_ok cb cc h2 h3 (by omega)
    obtain ⟨x, p4, q4, v4, l4⟩ := Add_ok q1 cc l1 (show c.length ≤ 61 by omega) (by omega)
    obtain ⟨y, p5, q5, v5, l5⟩ := Add_ok ca q3 (show a.length ≤ 61 by omega) l3 (by omega)
    obtain ⟨p, p6, q6, v6, l6⟩ := Mul_ok ca cb h1 h2 (by omega)
    obtain ⟨q, p7, q7, v7, l7⟩ := Mul_ok cb ca h2 h1 (by omega)
    obtain ⟨r, p8, q8, v8, l8⟩ := Mul_ok ca cc h1 h3 (by omega)
    obtain ⟨s, p9, q9, v9, l9⟩ := Mul_ok ca q3 h1 l3 (by omega)
    obtain ⟨t, p10, q10, v10, l10⟩ := Add_ok q6 q8 l6 l8 (by omega)
    obtain ⟨u, p11, q11, v11, l11⟩ := Mul_ok q6 cc l6 h3 (by omega)
    obtain ⟨v, p12, q12, v12, l12⟩ := Mul_ok cb q8 h2 l8 (by omega)
    have nb : 0 ≤ v32 a := dv_nonneg K0 ca.dg
    obtain ⟨d, p13, q13, v13, l13⟩ := Sub_ok q1 cb (by omega) (by omega) (by omega)
    have e1 : ab = ba := cn_unique K0 q1 q2 (by show v32 ab = v32 ba; omega)
    have e2 : x = y := cn_unique K0 q4 q5 (by show v32 x = v32 y; omega)
    have e3 : p = q := cn_unique K0 q6 q7 (by show v32 p = v32 q; rw [v6, v7, Int.mul_comm])
    have e4 : s = t := cn_unique K0 q9 q10 (by show v32 s = v32 t; rw [v9, v10, v3, v6, v8, Int.mul_add])
    have e5 : u = v := cn_unique K0 q11 q12 (by show v32 u = v32 v; rw [v11, v12, v6, v8]; grind)
    have e6 : d = a := cn_unique K0 q13 ca (by show v32 d = v32 a; omega)
    subst e1 e2 e3 e4 e5 e6
    have cmp0 : ∀ z : List Int, C32 z → z.length ≤ 256 → Ev (fun k => nat_Compare.f k z z) 0 := fun z hz hl => by have := Compare_ev hz hz hl hl; rwa [sgn_eq] at this
    refine ev_call p1 (ev_call p2 (ev_call p3 (ev_call p4 (ev_call p5 (ev_pos (by simp [w0]) ?_)))))
    refine ev_call (cmp0 ab q1 (by omega)) (ev_pos (c := (0 : Int) = 0) rfl (ev_call (cmp0 x q4 (by omega)) ?_))
    refine Ev.step (fun k => by simp only [cashbooklaw01_NatRing.j0]; rfl) (ev_neg (by decide) ?_)
    refine ev_call p6 (ev_call p7 (ev_call p8 (ev_call p9 (ev_call p10 (ev_pos (by simp [w0]) ?_)))))
    refine ev_call (cmp0 p q6 (by omega)) (ev_pos (c := (0 : Int) = 0) rfl (ev_call (cmp0 s q9 (by omega)) ?_))
    refine Ev.step (fun k => by simp only [cashbooklaw01_NatRing.j1]; rfl) (ev_neg (by decide) ?_)
    refine ev_call p11 (ev_call p12 (ev_call p13 (ev_call (Same_ev (by show d.length ≤ _; omega)) (ev_call alive_ev (ev_pos (c := true = true) rfl (ev_pos (by simp [w0]) ?_))))))
    refine ev_call (cmp0 u q11 (by omega)) (ev_pos (c := (0 : Int) = 0) rfl (ev_pos (c := true = true) rfl (ev_pure (Right_eq (by show u.length ≤ _; omega)) ?_)))
    refine ev_pos (by simpa using (cn_rt q11).2 (by omega)) (ev_pure (Right_eq (by omega)) (ev_eq ?_))
    simpa using (cn_rt q4).2 (by omega)
  · by_cases hb : a.length ≤ 1000000000 ∧ b.length ≤ 1000000000 ∧ c.length ≤ 1000000000
    · exact ev_pure (right3 hb.1 hb.2.1 hb.2.2) (ev_neg (by simpa using hr) (ev_call alive_ev ev_ret))
    · have hf : cashbooklaw01_right.f a b c = some false := by
        unfold cashbooklaw01_right.f
        by_cases q1 : (a.length : Int) ≤ 60
        · rw [if_pos q1]
          by_cases q2 : (b.length : Int) ≤ 60
          · rw [if_pos q2, if_neg (by omega)]
          · rw [if_neg q2]
        · rw [if_neg q1]
      exact ev_pure hf (ev_neg (by decide) (ev_call alive_ev ev_ret))
end Go.Proofs.YtcidmdjhmhkmgaaDoor.Pure
