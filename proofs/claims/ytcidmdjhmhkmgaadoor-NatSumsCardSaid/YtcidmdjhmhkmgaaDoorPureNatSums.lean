import Derived.Test.YtcidmdjhmhkmgaaDoorS13
import Derived.Test.YtcidmdjhmhkmgaaDoorS3
import Derived.Test.YtcidmdjhmhkmgaaDoorS4
import Derived.Test.YtcidmdjhmhkmgaaDoorRefB
set_option linter.unusedVariables false
namespace Go.Proofs.YtcidmdjhmhkmgaaDoor.Pure
open Go.RowKit Go.Proofs.YtcidmdjhmhkmgaaDoorW.PrintWords Go.Proofs.YtcidmdjhmhkmgaaDoorW.PrintMore Go.Proofs.YtcidmdjhmhkmgaaDoor.S Go.Proofs.YtcidmdjhmhkmgaaDoor.L

theorem AddR_ev {a b : List Int} (ha : D32 a) (hb : D32 b) (hla : a.length ≤ 1000) (hlb : b.length ≤ 1000) : ∃ r e, Ev (fun k => cashbookref01_Add.f k a b) (r, e) ∧
    ((¬ (rt a ∧ rt b) ∧ r = [] ∧ e = 1) ∨ (rt a ∧ rt b ∧ ((v32 a + v32 b < 4294967296 ^ 256 ∧ C32 r ∧ v32 r = v32 a + v32 b ∧ e = 0) ∨ (4294967296 ^ 256 ≤ v32 a + v32 b ∧ r = [] ∧ e = 4)))) := by
  by_cases h1 : rt a
  · by_cases h2 : rt b
    · obtain ⟨x, x1, x2, x3, x4⟩ := figs_ev ha (by omega)
      obtain ⟨y, y1, y2, y3, y4⟩ := figs_ev hb (by omega)
      obtain ⟨s, s1, s2, s3, s4⟩ := sum_ev x2.dg y2.dg (by omega) (by omega)
      obtain ⟨r, e, r1, r2⟩ := fitR_ev s2.dg (by omega)
      refine ⟨r, e, ?_, .inr ⟨h1, h2, ?_⟩⟩
      · unfold cashbookref01_Add.f
        refine ev_pure (RightR_eq (by omega)) (ev_pure (RightR_eq (by omega)) (ev_pos (by simpa using h1) ?_))
        exact Ev.step (fun k => by simp only [cashbookref01_Add.j0]; rfl) (ev_neg (by simpa using h2) (ev_call x1 (ev_call y1 (ev_call s1 (ev_call r1 ev_ret)))))
      · rw [s3, x3, y3] at r2
        exact r2
    · refine ⟨[], 1, ?_, .inl ⟨fun h => h2 h.2, rfl, rfl⟩⟩
      unfold cashbookref01_Add.f
      refine ev_pure (RightR_eq (by omega)) (ev_pure (RightR_eq (by omega)) (ev_pos (by simpa using h1) ?_))
      exact Ev.step (fun k => by simp only [cashbookref01_Add.j0]; rfl) (ev_pos (by simpa using h2) ev_ret)
  · refine ⟨[], 1, ?_, .inl ⟨fun h => h1 h.1, rfl, rfl⟩⟩
    unfold cashbookref01_Add.f
    refine ev_pure (RightR_eq (by omega)) (ev_pure (RightR_eq (by omega)) (ev_neg (by simpa using h1) ?_))
    exact Ev.step (fun k => by simp only [cashbookref01_Add.j0]; rfl) (ev_pos (c := true = true) rfl ev_ret)
theorem SubR_ev {a b : List Int} (ha : D32 a) (hb : D32 b) (hla : a.length ≤ 1000) (hlb : b.length ≤ 1000) : ∃ r e, Ev (fun k => cashbookref01_Sub.f k a b) (r, e) ∧
    ((¬ (rt a ∧ rt b) ∧ r = [] ∧ e = 1) ∨ (rt a ∧ rt b ∧ ((v32 a < v32 b ∧ r = [] ∧ e = 2) ∨ (v32 b ≤ v32 a ∧ C32 r ∧ v32 r = v32 a - v32 b ∧ e = 0)))) := by
  by_cases h1 : rt a
  · by_cases h2 : rt b
    · obtain ⟨x, x1, x2, x3, x4⟩ := figs_ev ha (by omega)
      obtain ⟨y, y1, y2, y3, y4⟩ := figs_ev hb (by omega)
      have hE : ∀ p, Ev (fun k => (cashbookref01_less.f k x y).bind fun t423 => (if t423 = true then (some (([] : List Int), (2 : Int))) else ((cashbookref01_rest.f k x y).bind fun t424 => ((cashbookref01_fit.f k t424).bind fun bt427 => (some (bt427.1, bt427.2)))))) p → Ev (fun k => cashbookref01_Sub.f k a b) p := fun p hp => by
        unfold cashbookref01_Sub.f
        refine ev_pure (RightR_eq (by omega)) (ev_pure (RightR_eq (by omega)) (ev_pos (by simpa using h1) ?_))
        exact Ev.step (fun k => by simp only [cashbookref01_Sub.j0]; rfl) (ev_neg (by simpa using h2) (ev_call x1 (ev_call y1 hp)))
      have hls := less_ev x2.dg y2.dg (by omega) (by omega)
      by_cases h3 : v32 a < v32 b
      · exact ⟨[], 2, hE _ (ev_call hls (ev_pos (by rw [decide_eq_true_eq]; omega) ev_ret)), .inr ⟨h1, h2, .inl ⟨h3, rfl, rfl⟩⟩⟩
      · obtain ⟨s, s1, s2, s3, s4⟩ := rest_ev x2 y2 (by omega) (by omega)
        obtain ⟨r, e, r1, r2⟩ := fitR_ev s2.dg (by omega)
        refine ⟨r, e, hE _ (ev_call hls (ev_neg (by rw [decide_eq_true_eq]; omega) (ev_call s1 (ev_call r1 ev_ret)))), .inr ⟨h1, h2, .inr ⟨by omega, ?_⟩⟩⟩
        rw [s3, x3, y3] at r2
        rcases r2 with ⟨_, p2, p3, p4⟩ | ⟨p1, _, _⟩
        · exact ⟨p2, p3, p4⟩
        · have q1 := (cn_rt' (rt_cn h1 ha)).1 h1
          have q2 : 0 ≤ v32 b := dv_nonneg K0 hb
          omega
    · refine ⟨[], 1, ?_, .inl ⟨fun h => h2 h.2, rfl, rfl⟩⟩
      unfold cashbookref01_Sub.f
      refine ev_pure (RightR_eq (by omega)) (ev_pure (RightR_eq (by omega)) (ev_pos (by simpa using h1) ?_))
      exact Ev.step (fun k => by simp only [cashbookref01_Sub.j0]; rfl) (ev_pos (by simpa using h2) ev_ret)
  · refine ⟨[], 1, ?_, .inl ⟨fun h => h1 h.1, rfl, rfl⟩⟩
    unfold cashbookref01_Sub.f
    refine ev_pure (RightR_eq (by omega)) (ev_pure (RightR_eq (by omega)) (ev_neg (by simpa using h1) ?_))
    exact Ev.step (fun k => by simp only [cashbookref01_Sub.j0]; rfl) (ev_pos (c := true = true) rfl ev_ret)
theorem alive_ev : Ev (fun k => cashbooklaw01_alive.f k) true := ev_some cashbooklaw01_alive.mono ⟨_, cashbooklaw01_alive.now⟩
theorem short_eq (l : List Int) (n : Nat) : cashbooklaw01_short.f l (n : Int) = some (decide (l.length ≤ n)) := congrArg some (decide_eq_decide.2 (by omega))
theorem NatSums : cashbooklaw01_NatSums.Pure := by
  intro l0 l1 _ _ w0 _ _ w1
  refine ev_rounds ?_
  have d0 := d32_of w0
  have d1 := d32_of w1
  have hA : Ev (fun k => cashbooklaw01_NatSums.j0 k l0 l1 true) true :=
    Ev.step (fun k => by simp only [cashbooklaw01_NatSums.j0]; rfl) (ev_pos (c := true = true) rfl (ev_call alive_ev ev_ret))
  unfold cashbooklaw01_NatSums.f
  refine ev_pure (short_eq l0 300) ?_
  by_cases h0 : l0.length ≤ 300
  · refine ev_pos (by simpa using h0) (ev_pure (short_eq l1 300) ?_)
    by_cases h1 : l1.length ≤ 300
    · rw [decide_eq_true h1]
      obtain ⟨r, e, p1, p2⟩ := Add_ev d0 d1 (by omega) (by omega)
      obtain ⟨r', e', q1, q2⟩ := AddR_ev d0 d1 (by omega) (by omega)
      obtain ⟨s, f, p3, p4⟩ := Sub_ev d0 d1 (by omega) (by omega)
      obtain ⟨s', f', q3, q4⟩ := SubR_ev d0 d1 (by omega) (by omega)
      have er : r = r' ∧ e = e' ∧ r.length ≤ 256 := by
        rcases p2 with ⟨n, rfl, rfl⟩ | ⟨a, b, ⟨c, c1, c2, rfl⟩ | ⟨c, rfl, rfl⟩⟩ <;> rcases q2 with ⟨n', rfl, rfl⟩ | ⟨a', b', ⟨c', c1', c2', rfl⟩ | ⟨c', rfl, rfl⟩⟩
        · exact ⟨rfl, rfl, by simp⟩
        · exact absurd ⟨a', b'⟩ n
        · exact absurd ⟨a', b'⟩ n
        · exact absurd ⟨a, b⟩ n'
        · refine ⟨cn_unique K0 c1 c1' ?_, rfl, ?_⟩
          · have c2a : dv 4294967296 r = v32 l0 + v32 l1 := c2
            have c2b : dv 4294967296 r' = v32 l0 + v32 l1 := c2'
            omega
          · refine (cn_len_le K1 c1).2 ?_
            have c2a : dv 4294967296 r = v32 l0 + v32 l1 := c2
            rw [c2a]; exact c
        · exact absurd c (by omega)
        · exact absurd ⟨a, b⟩ n'
        · exact absurd c' (by omega)
        · exact ⟨rfl, rfl, by simp⟩
      have es : s = s' ∧ f = f' ∧ s.length ≤ 256 := by
        rcases p4 with ⟨n, rfl, rfl⟩ | ⟨a, b, ⟨c, rfl, rfl⟩ | ⟨c, c1, ct, c2, rfl⟩⟩ <;> rcases q4 with ⟨n', rfl, rfl⟩ | ⟨a', b', ⟨c', rfl, rfl⟩ | ⟨c', c1', c2', rfl⟩⟩
        · exact ⟨rfl, rfl, by simp⟩
        · exact absurd ⟨a', b'⟩ n
        · exact absurd ⟨a', b'⟩ n
        · exact absurd ⟨a, b⟩ n'
        · exact ⟨rfl, rfl, by simp⟩
        · exact absurd c (by omega)
        · exact absurd ⟨a, b⟩ n'
        · exact absurd c' (by omega)
        · refine ⟨cn_unique K0 c1 c1' ?_, rfl, ct.1⟩
          have c2a : dv 4294967296 s = v32 l0 - v32 l1 := c2
          have c2b : dv 4294967296 s' = v32 l0 - v32 l1 := c2'
          omega
      obtain ⟨rfl, rfl, hr⟩ := er
      obtain ⟨rfl, rfl, hs⟩ := es
      refine Ev.step (fun k => by simp only [cashbooklaw01_NatSums.j0]; rfl) (ev_neg (by decide) ?_)
      refine ev_call p1 (ev_call q1 (ev_call p3 (ev_call q3 ?_)))
      refine ev_call (Same_ev (by show r.length ≤ _; omega)) (ev_call (Same_ev (by show s.length ≤ _; omega)) (ev_call alive_ev ?_))
      exact ev_pos (c := true = true) rfl (ev_pos (c := true = true) rfl (ev_pos (c := true = true) rfl (ev_pos (c := e = e) rfl (ev_eq (by simp)))))
    · rw [decide_eq_false h1]
      exact hA
  · exact ev_neg (by simpa using h0) hA
end Go.Proofs.YtcidmdjhmhkmgaaDoor.Pure
