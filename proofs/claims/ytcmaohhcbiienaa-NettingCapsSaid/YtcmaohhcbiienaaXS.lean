import Derived.Test.YtcmaohhcbiienaaXR
/-! XS: copy. -/
set_option linter.unusedVariables false
namespace Go.Proofs.Ytcmaohhcbiienaa.X
open Go.RowKit

section
variable {E : Env} {B : Blk} {lim base : Nat} {g g' : Gh} {w w' : World} {ob ob' : ObF} {rt rt' : RtF} {nx nx' : Nat} {I : Nat → Nat → Prop}

/-- The rows that a slice shows, as they are now. -/
theorem src_rows {G : Nat → Option (List PV)} (h : RelM G g w ob rt nx B) {v : Value} {c : CV} {z : Nat} {l : List (List PV)} (k : RelC g w ob rt nx v c) (hp : pvC ob c = some (.sl z l)) :
    ∃ A cap, ∃ us : Array Value, v = .slice A l.length cap ∧ RowsRel g.I w z us l ∧ (∀ v ∈ us.toList, v.oneCell' = true) ∧ (A = none → l.length = 0) ∧
      ∀ a, A = some a → ∀ (j : Nat) (u : Value), us.toList[j]? = some u → w.cell? (a.add j) = some u := by
  have rep : ∀ {v : Value}, RepP g.I w v (.sl z l) → ∃ A cap, ∃ us : Array Value, v = .slice A l.length cap ∧ RowsRel g.I w z us l ∧ (∀ v ∈ us.toList, v.oneCell' = true) ∧ (A = none → l.length = 0) ∧
      ∀ a, A = some a → ∀ (j : Nat) (u : Value), us.toList[j]? = some u → w.cell? (a.add j) = some u := by
    intro v k
    have hz := k.z
    have k0 := k
    cases k with
    | sl f h1 h2 h3 h4 h5 h6 h7 =>
      rename_i A cap
      cases A with
      | none =>
        have hl : l = [] := List.eq_nil_of_length_eq_zero (by have := h3 rfl; omega)
        subst hl
        exact ⟨none, cap, #[], rfl, ⟨by simp, fun i r h => by simp at h, fun i r j x v h => by simp at h⟩, fun v hv => by simp at hv, fun _ => rfl, fun a ha => by cases ha⟩
      | some a =>
        obtain ⟨_, _, cs, c1, c2, c3, c4⟩ := k0.cells
        refine ⟨some a, cap, cs.toArray, rfl, ⟨by simpa using c1, hz, fun i r j x v hr hx hv => ?_⟩, by simpa using c3, (fun h => by cases h), fun a' ha j u hu => ?_⟩
        · obtain ⟨v', hv', q⟩ := c4 i r j x hr hx
          simp at hv
          rw [hv] at hv'
          cases hv'
          exact q
        · cases ha
          exact (c2 j u (by simpa using hu)).2
  cases k with
  | p k => simp [pvC] at hp; subst hp; exact rep k
  | p0 k => simp [pvC] at hp; obtain ⟨rfl, rfl⟩ := hp; exact rep k
  | pn _ _ k => simp [pvC] at hp; obtain ⟨rfl, rfl⟩ := hp; exact rep k
  | pt => simp [pvC] at hp
  | pr => simp [pvC] at hp
  | mt => simp [pvC] at hp
  | cl => simp [pvC] at hp
  | @vw o lo n cap A fz z' rows ho hl hcap hmax hnil hsp hA =>
    simp only [pvC, ho, Option.some.injEq, PV.sl.injEq] at hp
    obtain ⟨rfl, rfl⟩ := hp
    by_cases hne : rows = []
    · subst hne
      obtain rfl : n = 0 := by simp at hl; omega
      refine ⟨A, cap, #[], by simp, ⟨by simp, fun i r h => by simp at h, fun i r j x v h => by simp at h⟩, fun v hv => by simp at hv, fun hn => by simp, fun a ha j u hu => by simp at hu⟩
    obtain ⟨e, vs, hh, ⟨r1, r2, r3⟩, _⟩ := (h.obj o _ ho).1.rows hne
    have hlen : ((rows.drop lo).take n).length = n := by simp; omega
    have hend : lo * z' + n * z' ≤ rows.length * z' := by rw [← Nat.add_mul]; exact Nat.mul_le_mul_right _ hl
    have hrow : ∀ (i : Nat) (r : List PV), ((rows.drop lo).take n)[i]? = some r → i < n ∧ rows[lo + i]? = some r := by
      intro i r hr
      rw [List.getElem?_take] at hr
      split at hr
      · rw [List.getElem?_drop] at hr
        exact ⟨by assumption, hr⟩
      · cases hr
    refine ⟨A, cap, vs.extract (lo * z') (lo * z' + n * z'), by rw [hlen], ⟨by simp [hlen]; omega, fun i r hr => r2 _ r (hrow i r hr).2, fun i r j x v hr hx hv => ?_⟩, fun v hv => ?_, fun hn => by rw [hlen]; have := hnil hn; omega, fun a ha j u hu => ?_⟩
    · obtain ⟨hi, hr'⟩ := hrow i r hr
      rw [Array.getElem?_extract] at hv
      split at hv
      · refine r3 (lo + i) r j x v hr' hx ?_
        rw [Nat.add_mul, Nat.add_assoc]
        exact hv
      · cases hv
    · -- every cell of an own array is one cell
      obtain ⟨j, hj, e2⟩ := List.mem_iff_getElem.1 hv
      have hj' : j < n * z' := by simp at hj; omega
      have hz : 0 < z' := Nat.pos_of_ne_zero fun h => by subst h; simp at hj'
      have hi : j / z' < n := (Nat.div_lt_iff_lt_mul hz).2 hj'
      have hr : rows[lo + j / z']? = some rows[lo + j / z'] := List.getElem?_eq_getElem (by omega)
      have hm : j % z' < rows[lo + j / z'].length := by rw [r2 _ _ hr]; exact Nat.mod_lt _ hz
      have e3 : (lo + j / z') * z' + j % z' = lo * z' + j := by
        rw [Nat.add_mul, Nat.add_assoc]
        congr 1
        rw [Nat.mul_comm]
        exact Nat.div_add_mod j z'
      refine flat_one (RepP.flat (r3 (lo + j / z') _ (j % z') _ v hr (List.getElem?_eq_getElem hm) ?_))
      rw [e3]
      have : (vs.extract (lo * z') (lo * z' + n * z')).toList[j]? = some v := by rw [List.getElem?_eq_getElem hj, e2]
      rw [Array.getElem?_toList, Array.getElem?_extract] at this
      split at this
      · exact this
      · cases this
    · by_cases hn : n = 0
      · subst hn
        simp at hu
      · have := hA hn
        rw [ha] at this
        cases this
        rw [Array.getElem?_toList, Array.getElem?_extract] at hu
        split at hu
        · rw [Addr.add_lit, row_cells hh]
          exact hu
        · cases hu

theorem RowsGe.splice {z : Nat} {vs us : Array Value} {rows xs : List (List PV)} (h : RowsGe I w z vs rows) (k : RowsRel I w z us xs) {lo : Nat} (hle : lo + xs.length ≤ rows.length) :
    RowsGe I w z (X.splice vs.toList (lo * z) us.toList).toArray (X.splice rows lo xs) := by
  obtain ⟨h1, h2, h3⟩ := h
  obtain ⟨k1, k2, k3⟩ := k
  have hv : rows.length * z ≤ vs.toList.length := by rw [Array.length_toList]; exact h1
  have hu : us.toList.length = xs.length * z := by rw [Array.length_toList]; exact k1
  have hend : lo * z + xs.length * z ≤ rows.length * z := by rw [← Nat.add_mul]; exact Nat.mul_le_mul_right _ hle
  refine ⟨?_, fun i r hr => ?_, fun i r j x v hr hx hw => ?_⟩
  · rw [List.size_toArray, splice_length hle, splice_length (by omega)]
    exact hv
  · rw [splice_at hle] at hr
    split at hr
    · exact h2 _ _ hr
    · split at hr
      · exact k2 _ _ hr
      · exact h2 _ _ hr
  · rw [List.getElem?_toArray, splice_at (by omega), hu] at hw
    rw [splice_at hle] at hr
    split at hr
    · rename_i hi
      have hj : j < z := by rw [← h2 _ _ hr]; exact (List.getElem?_eq_some_iff.1 hx).1
      have := at_lt hi hj
      rw [if_pos this] at hw
      exact h3 i r j x v hr hx (by simpa using hw)
    · rename_i hi
      have hge : lo * z ≤ i * z := Nat.mul_le_mul_right _ (by omega)
      split at hr
      · rename_i hi2
        have hj : j < z := by rw [← k2 _ _ hr]; exact (List.getElem?_eq_some_iff.1 hx).1
        have := at_lt hi2 hj
        rw [Nat.add_mul] at this
        rw [if_neg (by omega), if_pos this] at hw
        refine k3 (i - lo) r j x v hr hx ?_
        have e : i * z + j - lo * z = (i - lo) * z + j := by rw [Nat.sub_mul]; omega
        rw [e] at hw
        simpa using hw
      · rename_i hi2
        have : (lo + xs.length) * z ≤ i * z := Nat.mul_le_mul_right _ (by omega)
        rw [Nat.add_mul] at this
        rw [if_neg (by omega), if_neg (by omega)] at hw
        exact h3 i r j x v hr hx (by simpa using hw)

theorem RowsRel.take {z : Nat} {us : Array Value} {l : List (List PV)} (h : RowsRel I w z us l) {m : Nat} (hm : m ≤ l.length) : RowsRel I w z (us.toList.take (m * z)).toArray (l.take m) := by
  obtain ⟨h1, h2, h3⟩ := h
  have hle : m * z ≤ l.length * z := Nat.mul_le_mul_right _ hm
  refine ⟨by rw [List.size_toArray, List.length_take, Array.length_toList, h1, List.length_take, Nat.min_eq_left hm, Nat.min_eq_left hle], fun i r hr => ?_, fun i r j x v hr hx hv => ?_⟩
  · rw [List.getElem?_take] at hr
    split at hr
    · exact h2 i r hr
    · cases hr
  · rw [List.getElem?_take] at hr
    split at hr
    · rw [List.getElem?_toArray, List.getElem?_take] at hv
      split at hv
      · exact h3 i r j x v hr hx (by simpa using hv)
      · cases hv
    · cases hr

theorem Cur.copy {s : St} {a : Act} (c : Cur E B lim s g a w) {o : Oper} {t : TypeId} {x y : Operand} (ho : o.op = .call { callee := .builtin .copy, args := #[x, y], argTypes := #[t, t] }) {ti : TI} (hT : E.T t = some ti) (hk : ti.kd = 3)
    {q lo n : Nat} {rows l : List (List PV)} {cy : CV} (hx : evOpd E s.tm x = .one (.vw q lo n)) (hq : s.ob q = some (.arr false ti.esz rows)) (hy : X.opT E (evOpd E s.tm) t y = .one cy) (hl : pvC s.ob cy = some (.sl ti.esz l))
    (hle : lo + n ≤ rows.length) {rd : List Nat} :
    OpOk E B lim s g a w o { val := .one (.p none (.sc (.int .i64 (min l.length n : Nat)))), ow := [(q, .arr false ti.esz (splice rows lo (l.take (min l.length n))))], rd := rd } := by
  obtain ⟨hd, j, hj, hjz, _, _⟩ := (tiOk hT).sli hk
  have hyr := c.opT t y
  rw [hy] at hyr
  obtain ⟨A, cap, us, hv, hR, h1, hA0, hA⟩ := src_rows c.mem (one_rep hyr) hl
  have hxr := c.opd x
  rw [hx] at hxr
  have hxr := one_rep hxr
  generalize hev : a.eval x = ev at hxr
  cases hxr with
  | vw hq' r1 r2 r3 r4 r5 r6 =>
    rename_i cap' A' fz' z' rows'
    rw [hq] at hq'
    cases hq'
    by_cases hne : rows = []
    · subst hne
      obtain rfl : n = 0 := by simp at hle; omega
      have e0 : splice ([] : List (List PV)) lo (l.take (min l.length 0)) = [] := by simp [splice]
      have eo : upd s.ob q (some (.arr false ti.esz [])) = s.ob := by
        funext p
        by_cases hp : p = q
        · rw [hp, upd_same, hq]
        · rw [upd_ne _ _ hp]
      have hap : (apU none ({ val := .one (.p none (.sc (.int .i64 (min l.length 0 : Nat)))), ow := [(q, .arr false ti.esz [])], rd := rd } : Upd) s) = s := by
        simp [apU, eo]
      rw [e0]
      refine .value (v := .int .i64 (min l.length 0 : Nat)) (g' := g) (w' := w) ?_ ⟨by rw [hap]; exact Ext.refl .., by rw [hap]; exact c.mem, by rw [hap]; exact c.lab, .of (.one (.p (.sc rfl)))⟩
      have hmin : Nat.min l.length 0 = 0 := Nat.min_zero _
      have hfirst : (Builtin.firstCells j.size 0 (.slice A l.length cap)).run E.P w = .ok #[] w := by
        cases A with
        | none => exact run_firstCells_none w _ _ _ _
        | some ad => exact run_firstCells_some (P := E.P) w j.size _ ad l.length cap [] (by simp) fun i v hv => by simp at hv
      cases A' with
      | none => simp [execOp, ho, resolve, invoke, builtin, Builtin.copy_, run_underlying hd, hev, hv, Builtin.lenOf, run_sizeOf hj, hmin, hfirst, goInt]
      | some b => simp [execOp, ho, resolve, invoke, builtin, Builtin.copy_, run_underlying hd, hev, hv, Builtin.lenOf, run_sizeOf hj, hmin, hfirst, goInt, storeCells]
    obtain ⟨e, cur, hh, hR0, hmx⟩ := (c.mem.obj q _ hq).1.rows hne
    have hI := c.mem.frozen hq hne
    have hm : min l.length n ≤ l.length := Nat.min_le_left _ _
    have hmn : min l.length n ≤ n := Nat.min_le_right _ _
    have hRt := hR.take hm
    have hlt : (l.take (min l.length n)).length = min l.length n := by simp
    have hus : us.toList.length = l.length * ti.esz := by rw [Array.length_toList]; exact hR.1
    have hmz : min l.length n * ti.esz ≤ l.length * ti.esz := Nat.mul_le_mul_right _ hm
    have hR2 := hR0.splice hRt (lo := lo) (by omega)
    have hlike : Obj.like (.arr false ti.esz rows) (.arr false ti.esz (splice rows lo (l.take (min l.length n)))) := ⟨rfl, splice_length (by omega)⟩
    have hE : Ext B lim g w s.ob s.rt s.nx g (w.setRow (g.φ q) (splice cur.toList (lo * ti.esz) (us.toList.take (min l.length n * ti.esz))).toArray) (upd s.ob q (some (.arr false ti.esz (splice rows lo (l.take (min l.length n)))))) s.rt s.nx :=
      Ext.store c.mem hq hlike (Obj.solid_ne hne) _ hI
    have hM := RelM.store c.mem c.lab hq hlike (Obj.solid_ne hne) (splice cur.toList (lo * ti.esz) (us.toList.take (min l.length n * ti.esz))).toArray hI
      (.arr e _ (setRow_heap w _ cur _ e (0, 0) hh) hR2.1 (by rw [splice_length (by omega)]; exact hmx) hR2.2.1 (fun i r j x v q1 q2 q3 => (hR2.2.2 i r j x v q1 q2 q3).ext hE) (fun _ => hI) (fun h => by cases h))
    refine .value (v := .int .i64 (min l.length n : Nat)) (g' := g) (w' := w.setRow (g.φ q) (splice cur.toList (lo * ti.esz) (us.toList.take (min l.length n * ti.esz))).toArray) ?_ ⟨hE, hM, ?_, .of (.one (.p (.sc rfl)))⟩
    · have hfirst : (Builtin.firstCells j.size (min l.length n) (.slice A l.length cap)).run E.P w = .ok (us.toList.take (min l.length n * ti.esz)).toArray w := by
        cases A with
        | none =>
          have := hA0 rfl
          rw [this, Nat.zero_min, Nat.zero_mul, List.take_zero]
          exact run_firstCells_none w _ _ _ _
        | some ad =>
          refine run_firstCells_some (P := E.P) w j.size _ ad l.length cap _ (by rw [List.length_take, hus, hjz]; omega) fun i v hv => hA ad rfl i v ?_
          rw [List.getElem?_take] at hv
          split at hv
          · exact hv
          · cases hv
      have hstore : ∀ b, A' = some b → (storeCells b (us.toList.take (min l.length n * ti.esz))).run E.P w = .ok () (w.setRow (g.φ q) (splice cur.toList (lo * ti.esz) (us.toList.take (min l.length n * ti.esz))).toArray) := by
        intro b hb
        have hcl : cur.toList.length = cur.size := Array.length_toList
        have hend : lo * ti.esz + min l.length n * ti.esz ≤ rows.length * ti.esz := by rw [← Nat.add_mul]; exact Nat.mul_le_mul_right _ (by omega)
        by_cases hn : n = 0
        · subst hn
          simp only [Nat.min_zero, Nat.zero_mul, List.take_zero, splice, List.append_nil, List.length_nil, Nat.add_zero, List.take_append_drop, Array.toArray_toList]
          rw [setRow_self w (g.φ q) cur e (0, 0) hh]
          rfl
        · have := r6 hn
          rw [hb] at this
          cases this
          have := run_storeCells_at E.P (g.φ q) (lo * ti.esz) e (us.toList.take (min l.length n * ti.esz)) 0 cur w hh (by have q := hR0.1; rw [List.length_take, hus, Nat.add_zero]; omega) fun v hv => h1 v (List.mem_of_mem_take hv)
          simp only [Nat.add_zero] at this
          exact this
      have hnone : A' = none → w.setRow (g.φ q) (splice cur.toList (lo * ti.esz) (us.toList.take (min l.length n * ti.esz))).toArray = w := by
        intro hb
        have hn : n = 0 := by have := r4 hb; omega
        subst hn
        simp only [Nat.min_zero, Nat.zero_mul, List.take_zero, splice, List.append_nil, List.length_nil, Nat.add_zero, List.take_append_drop, Array.toArray_toList]
        exact setRow_self w (g.φ q) cur e (0, 0) hh
      have hmin : Nat.min l.length n = min l.length n := rfl
      cases A' with
      | none =>
        rw [hnone rfl]
        simp [execOp, ho, resolve, invoke, builtin, Builtin.copy_, run_underlying hd, hev, hv, Builtin.lenOf, run_sizeOf hj, hmin, hfirst, goInt]
      | some b =>
        simp [execOp, ho, resolve, invoke, builtin, Builtin.copy_, run_underlying hd, hev, hv, Builtin.lenOf, run_sizeOf hj, hmin, hfirst, hstore b rfl, goInt]
    · intro p hp
      by_cases hpq : p = q
      · exact hpq ▸ c.lab q (by simp [hq])
      · exact c.lab p (by simpa [apU, upd_ne _ _ hpq] using hp)
end
end Go.Proofs.Ytcmaohhcbiienaa.X
