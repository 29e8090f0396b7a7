import Derived.Test.YtjhljcnjafbkfaaDoorQB0
import Derived.Laws.StructEq
import Derived.LaidEqlPtr
import Derived.MapKept
import Derived.Scope
import Derived.LoopN
set_option linter.unusedSimpArgs false
set_option linter.unusedVariables false
section
set_option linter.unusedVariables false
namespace Go.Proofs.YtjhljcnjafbkfaaDoor.X
open Go.RowKit
section
variable {E : Env} {B : Blk} {lim base : Nat} {g g' : Gh} {w w' : World} {ob ob' : ObF} {rt rt' : RtF} {nx nx' : Nat} {I : Nat → Nat → Prop}
theorem src_rows {G : Nat → Option (List PV)} (h : RelM G g w ob rt nx B) {v : Value} {c : CV} {z : Nat} {l : List (List PV)} (k : RelC g w ob rt nx v c) (hp : pvC ob c = some (.sl z l)) :
    ∃ A cap, ∃ us : Array Value, v = .slice A l.length cap ∧ RowsRel g.I w z us l ∧ (∀ v ∈ us.toList, v.oneCell' = true) ∧ (A = none → l.length = 0) ∧
      ∀ a, A = some a → ∀ (j : Nat) (u : Value), us.toList[j]? = some u → w.cell? (a.add j) = some u := by
  have rep : ∀ {v : Value}, RepP g.I w v (.sl z l) → ∃ A cap, ∃ us : Array Value, v = .slice A l.length cap ∧ RowsRel g.I w z us l ∧ (∀ v ∈ us.toList, v.oneCell' = true) ∧ (A = none → l.length = 0) ∧
      ∀ a, A = some a → ∀ (j : Nat) (u : Value), us.toList[j]? = some u → w.cell? (a.add j) = some u := by
    intro v k
    have hz := k.z
    have k0 := k
    cases k with
    | sl f h1 h2 h3 h4 h5 h6 h7 =>
      rename_i A cap
      cases A with
      | none =>
        have hl : l = [] := List.eq_nil_of_length_eq_zero (by have := h3 rfl; omega)
        subst hl
        exact ⟨none, cap, #[], rfl, ⟨by simp, fun i r h => by simp at h, fun i r j x v h => by simp at h⟩, fun v hv => by simp at hv, fun _ => rfl, fun a ha => by cases ha⟩
      | some a =>
        obtain ⟨_, _, cs, c1, c2, c3, c4⟩ := k0.cells
        refine ⟨some a, cap, cs.toArray, rfl, ⟨by simpa using c1, hz, fun i r j x v hr hx hv => ?_⟩, by simpa using c3, (fun h => by cases h), fun a' ha j u hu => ?_⟩
        · obtain ⟨v', hv', q⟩ := c4 i r j x hr hx
          simp at hv
          rw [hv] at hv'
          cases hv'
          exact q
        · cases ha
          exact (c2 j u (by simpa using hu)).2
  cases k with
  | p k => simp [pvC] at hp; subst hp; exact rep k
  | p0 k => simp [pvC] at hp; obtain ⟨rfl, rfl⟩ := hp; exact rep k
  | pn _ _ k => simp [pvC] at hp; obtain ⟨rfl, rfl⟩ := hp; exact rep k
  | pt => simp [pvC] at hp
  | pr => simp [pvC] at hp
  | mt => simp [pvC] at hp
  | cl => simp [pvC] at hp
  | @vw o lo n cap A fz z' rows ho hl hcap hmax hnil hsp hA =>
    simp only [pvC, ho, Option.some.injEq, PV.sl.injEq] at hp
    obtain ⟨rfl, rfl⟩ := hp
    by_cases hne : rows = []
    · subst hne
      obtain rfl : n = 0 := by simp at hl; omega
      refine ⟨A, cap, #[], by simp, ⟨by simp, fun i r h => by simp at h, fun i r j x v h => by simp at h⟩, fun v hv => by simp at hv, fun hn => by simp, fun a ha j u hu => by simp at hu⟩
    obtain ⟨e, vs, hh, ⟨r1, r2, r3⟩, _⟩ := (h.obj o _ ho).1.rows hne
    have hlen : ((rows.drop lo).take n).length = n := by simp; omega
    have hend : lo * z' + n * z' ≤ rows.length * z' := by rw [← Nat.add_mul]; exact Nat.mul_le_mul_right _ hl
    have hrow : ∀ (i : Nat) (r : List PV), ((rows.drop lo).take n)[i]? = some r → i < n ∧ rows[lo + i]? = some r := by
      intro i r hr
      rw [List.getElem?_take] at hr
      split at hr
      · rw [List.getElem?_drop] at hr
        exact ⟨by assumption, hr⟩
      · cases hr
    refine ⟨A, cap, vs.extract (lo * z') (lo * z' + n * z'), by rw [hlen], ⟨by simp [hlen]; omega, fun i r hr => r2 _ r (hrow i r hr).2, fun i r j x v hr hx hv => ?_⟩, fun v hv => ?_, fun hn => by rw [hlen]; have := hnil hn; omega, fun a ha j u hu => ?_⟩
    · obtain ⟨hi, hr'⟩ := hrow i r hr
      rw [Array.getElem?_extract] at hv
      split at hv
      · refine r3 (lo + i) r j x v hr' hx ?_
        rw [Nat.add_mul, Nat.add_assoc]
        exact hv
      · cases hv
    · -- every cell of an own array is one cell
      obtain ⟨j, hj, e2⟩ := List.mem_iff_getElem.1 hv
      have hj' : j < n * z' := by simp at hj; omega
      have hz : 0 < z' := Nat.pos_of_ne_zero fun h => by subst h; simp at hj'
      have hi : j / z' < n := (Nat.div_lt_iff_lt_mul hz).2 hj'
      have hr : rows[lo + j / z']? = some rows[lo + j / z'] := List.getElem?_eq_getElem (by omega)
      have hm : j % z' < rows[lo + j / z'].length := by rw [r2 _ _ hr]; exact Nat.mod_lt _ hz
      have e3 : (lo + j / z') * z' + j % z' = lo * z' + j := by
        rw [Nat.add_mul, Nat.add_assoc]
        congr 1
        rw [Nat.mul_comm]
        exact Nat.div_add_mod j z'
      refine flat_one (RepP.flat (r3 (lo + j / z') _ (j % z') _ v hr (List.getElem?_eq_getElem hm) ?_))
      rw [e3]
      have : (vs.extract (lo * z') (lo * z' + n * z')).toList[j]? = some v := by rw [List.getElem?_eq_getElem hj, e2]
      rw [Array.getElem?_toList, Array.getElem?_extract] at this
      split at this
      · exact this
      · cases this
    · by_cases hn : n = 0
      · subst hn
        simp at hu
      · have := hA hn
        rw [ha] at this
        cases this
        rw [Array.getElem?_toList, Array.getElem?_extract] at hu
        split at hu
        · rw [Addr.add_lit, row_cells hh]
          exact hu
        · cases hu
theorem RowsGe.splice {z : Nat} {vs us : Array Value} {rows xs : List (List PV)} (h : RowsGe I w z vs rows) (k : RowsRel I w z us xs) {lo : Nat} (hle : lo + xs.length ≤ rows.length) :
    RowsGe I w z (X.splice vs.toList (lo * z) us.toList).toArray (X.splice rows lo xs) := by
  obtain ⟨h1, h2, h3⟩ := h
  obtain ⟨k1, k2, k3⟩ := k
  have hv : rows.length * z ≤ vs.toList.length := by rw [Array.length_toList]; exact h1
  have hu : us.toList.length = xs.length * z := by rw [Array.length_toList]; exact k1
  have hend : lo * z + xs.length * z ≤ rows.length * z := by rw [← Nat.add_mul]; exact Nat.mul_le_mul_right _ hle
  refine ⟨?_, fun i r hr => ?_, fun i r j x v hr hx hw => ?_⟩
  · rw [List.size_toArray, splice_length hle, splice_length (by omega)]
    exact hv
  · rw [splice_at hle] at hr
    split at hr
    · exact h2 _ _ hr
    · split at hr
      · exact k2 _ _ hr
      · exact h2 _ _ hr
  · rw [List.getElem?_toArray, splice_at (by omega), hu] at hw
    rw [splice_at hle] at hr
    split at hr
    · rename_i hi
      have hj : j < z := by rw [← h2 _ _ hr]; exact (List.getElem?_eq_some_iff.1 hx).1
      have := at_lt hi hj
      rw [if_pos this] at hw
      exact h3 i r j x v hr hx (by simpa using hw)
    · rename_i hi
      have hge : lo * z ≤ i * z := Nat.mul_le_mul_right _ (by omega)
      split at hr
      · rename_i hi2
        have hj : j < z := by rw [← k2 _ _ hr]; exact (List.getElem?_eq_some_iff.1 hx).1
        have := at_lt hi2 hj
        rw [Nat.add_mul] at this
        rw [if_neg (by omega), if_pos this] at hw
        refine k3 (i - lo) r j x v hr hx ?_
        have e : i * z + j - lo * z = (i - lo) * z + j := by rw [Nat.sub_mul]; omega
        rw [e] at hw
        simpa using hw
      · rename_i hi2
        have : (lo + xs.length) * z ≤ i * z := Nat.mul_le_mul_right _ (by omega)
        rw [Nat.add_mul] at this
        rw [if_neg (by omega), if_neg (by omega)] at hw
        exact h3 i r j x v hr hx (by simpa using hw)
theorem RowsRel.take {z : Nat} {us : Array Value} {l : List (List PV)} (h : RowsRel I w z us l) {m : Nat} (hm : m ≤ l.length) : RowsRel I w z (us.toList.take (m * z)).toArray (l.take m) := by
  obtain ⟨h1, h2, h3⟩ := h
  have hle : m * z ≤ l.length * z := Nat.mul_le_mul_right _ hm
  refine ⟨by rw [List.size_toArray, List.length_take, Array.length_toList, h1, List.length_take, Nat.min_eq_left hm, Nat.min_eq_left hle], fun i r hr => ?_, fun i r j x v hr hx hv => ?_⟩
  · rw [List.getElem?_take] at hr
    split at hr
    · exact h2 i r hr
    · cases hr
  · rw [List.getElem?_take] at hr
    split at hr
    · rw [List.getElem?_toArray, List.getElem?_take] at hv
      split at hv
      · exact h3 i r j x v hr hx (by simpa using hv)
      · cases hv
    · cases hr
theorem Cur.copy {s : St} {a : Act} (c : Cur E B lim s g a w) {o : Oper} {t : TypeId} {x y : Operand} (ho : o.op = .call { callee := .builtin .copy, args := #[x, y], argTypes := #[t, t] }) {ti : TI} (hT : E.T t = some ti) (hk : ti.kd = 3)
    {q lo n : Nat} {rows l : List (List PV)} {cy : CV} (hx : evOpd E s.tm x = .one (.vw q lo n)) (hq : s.ob q = some (.arr false ti.esz rows)) (hy : X.opT E (evOpd E s.tm) t y = .one cy) (hl : pvC s.ob cy = some (.sl ti.esz l))
    (hle : lo + n ≤ rows.length) {rd : List Nat} :
    OpOk E B lim s g a w o { val := .one (.p none (.sc (.int .i64 (min l.length n : Nat)))), ow := [(q, .arr false ti.esz (splice rows lo (l.take (min l.length n))))], rd := rd } := by
  obtain ⟨hd, j, hj, hjz, _, _⟩ := (tiOk hT).sli hk
  have hyr := c.opT t y
  rw [hy] at hyr
  obtain ⟨A, cap, us, hv, hR, h1, hA0, hA⟩ := src_rows c.mem (one_rep hyr) hl
  have hxr := c.opd x
  rw [hx] at hxr
  have hxr := one_rep hxr
  generalize hev : a.eval x = ev at hxr
  cases hxr with
  | vw hq' r1 r2 r3 r4 r5 r6 =>
    rename_i cap' A' fz' z' rows'
    rw [hq] at hq'
    cases hq'
    by_cases hne : rows = []
    · subst hne
      obtain rfl : n = 0 := by simp at hle; omega
      have e0 : splice ([] : List (List PV)) lo (l.take (min l.length 0)) = [] := by simp [splice]
      have eo : upd s.ob q (some (.arr false ti.esz [])) = s.ob := by
        funext p
        by_cases hp : p = q
        · rw [hp, upd_same, hq]
        · rw [upd_ne _ _ hp]
      have hap : (apU none ({ val := .one (.p none (.sc (.int .i64 (min l.length 0 : Nat)))), ow := [(q, .arr false ti.esz [])], rd := rd } : Upd) s) = s := by
        simp [apU, eo]
      rw [e0]
      refine .value (v := .int .i64 (min l.length 0 : Nat)) (g' := g) (w' := w) ?_ ⟨by rw [hap]; exact Ext.refl .., by rw [hap]; exact c.mem, by rw [hap]; exact c.lab, .of (.one (.p (.sc rfl)))⟩
      have hmin : Nat.min l.length 0 = 0 := Nat.min_zero _
      have hfirst : (Builtin.firstCells j.size 0 (.slice A l.length cap)).run E.P w = .ok #[] w := by
        cases A with
        | none => exact run_firstCells_none w _ _ _ _
        | some ad => exact run_firstCells_some (P := E.P) w j.size _ ad l.length cap [] (by simp) fun i v hv => by simp at hv
      cases A' with
      | none => simp [execOp, ho, resolve, invoke, builtin, Builtin.copy_, run_underlying hd, hev, hv, Builtin.lenOf, run_sizeOf hj, hmin, hfirst, goInt]
      | some b => simp [execOp, ho, resolve, invoke, builtin, Builtin.copy_, run_underlying hd, hev, hv, Builtin.lenOf, run_sizeOf hj, hmin, hfirst, goInt, storeCells]
    obtain ⟨e, cur, hh, hR0, hmx⟩ := (c.mem.obj q _ hq).1.rows hne
    have hI := c.mem.frozen hq hne
    have hm : min l.length n ≤ l.length := Nat.min_le_left _ _
    have hmn : min l.length n ≤ n := Nat.min_le_right _ _
    have hRt := hR.take hm
    have hlt : (l.take (min l.length n)).length = min l.length n := by simp
    have hus : us.toList.length = l.length * ti.esz := by rw [Array.length_toList]; exact hR.1
    have hmz : min l.length n * ti.esz ≤ l.length * ti.esz := Nat.mul_le_mul_right _ hm
    have hR2 := hR0.splice hRt (lo := lo) (by omega)
    have hlike : Obj.like (.arr false ti.esz rows) (.arr false ti.esz (splice rows lo (l.take (min l.length n)))) := ⟨rfl, splice_length (by omega)⟩
    have hE : Ext B lim g w s.ob s.rt s.nx g (w.setRow (g.φ q) (splice cur.toList (lo * ti.esz) (us.toList.take (min l.length n * ti.esz))).toArray) (upd s.ob q (some (.arr false ti.esz (splice rows lo (l.take (min l.length n)))))) s.rt s.nx :=
      Ext.store c.mem hq hlike (Obj.solid_ne hne) _ hI
    have hM := RelM.store c.mem c.lab hq hlike (Obj.solid_ne hne) (splice cur.toList (lo * ti.esz) (us.toList.take (min l.length n * ti.esz))).toArray hI
      (.arr e _ (setRow_heap w _ cur _ e (0, 0) hh) hR2.1 (by rw [splice_length (by omega)]; exact hmx) hR2.2.1 (fun i r j x v q1 q2 q3 => (hR2.2.2 i r j x v q1 q2 q3).ext hE) (fun _ => hI) (fun h => by cases h))
    refine .value (v := .int .i64 (min l.length n : Nat)) (g' := g) (w' := w.setRow (g.φ q) (splice cur.toList (lo * ti.esz) (us.toList.take (min l.length n * ti.esz))).toArray) ?_ ⟨hE, hM, ?_, .of (.one (.p (.sc rfl)))⟩
    · have hfirst : (Builtin.firstCells j.size (min l.length n) (.slice A l.length cap)).run E.P w = .ok (us.toList.take (min l.length n * ti.esz)).toArray w := by
        cases A with
        | none =>
          have := hA0 rfl
          rw [this, Nat.zero_min, Nat.zero_mul, List.take_zero]
          exact run_firstCells_none w _ _ _ _
        | some ad =>
          refine run_firstCells_some (P := E.P) w j.size _ ad l.length cap _ (by rw [List.length_take, hus, hjz]; omega) fun i v hv => hA ad rfl i v ?_
          rw [List.getElem?_take] at hv
          split at hv
          · exact hv
          · cases hv
      have hstore : ∀ b, A' = some b → (storeCells b (us.toList.take (min l.length n * ti.esz))).run E.P w = .ok () (w.setRow (g.φ q) (splice cur.toList (lo * ti.esz) (us.toList.take (min l.length n * ti.esz))).toArray) := by
        intro b hb
        have hcl : cur.toList.length = cur.size := Array.length_toList
        have hend : lo * ti.esz + min l.length n * ti.esz ≤ rows.length * ti.esz := by rw [← Nat.add_mul]; exact Nat.mul_le_mul_right _ (by omega)
        by_cases hn : n = 0
        · subst hn
          simp only [Nat.min_zero, Nat.zero_mul, List.take_zero, splice, List.append_nil, List.length_nil, Nat.add_zero, List.take_append_drop, Array.toArray_toList]
          rw [setRow_self w (g.φ q) cur e (0, 0) hh]
          rfl
        · have := r6 hn
          rw [hb] at this
          cases this
          have := run_storeCells_at E.P (g.φ q) (lo * ti.esz) e (us.toList.take (min l.length n * ti.esz)) 0 cur w hh (by have q := hR0.1; rw [List.length_take, hus, Nat.add_zero]; omega) fun v hv => h1 v (List.mem_of_mem_take hv)
          simp only [Nat.add_zero] at this
          exact this
      have hnone : A' = none → w.setRow (g.φ q) (splice cur.toList (lo * ti.esz) (us.toList.take (min l.length n * ti.esz))).toArray = w := by
        intro hb
        have hn : n = 0 := by have := r4 hb; omega
        subst hn
        simp only [Nat.min_zero, Nat.zero_mul, List.take_zero, splice, List.append_nil, List.length_nil, Nat.add_zero, List.take_append_drop, Array.toArray_toList]
        exact setRow_self w (g.φ q) cur e (0, 0) hh
      have hmin : Nat.min l.length n = min l.length n := rfl
      cases A' with
      | none =>
        rw [hnone rfl]
        simp [execOp, ho, resolve, invoke, builtin, Builtin.copy_, run_underlying hd, hev, hv, Builtin.lenOf, run_sizeOf hj, hmin, hfirst, goInt]
      | some b =>
        simp [execOp, ho, resolve, invoke, builtin, Builtin.copy_, run_underlying hd, hev, hv, Builtin.lenOf, run_sizeOf hj, hmin, hfirst, hstore b rfl, goInt]
    · intro p hp
      by_cases hpq : p = q
      · exact hpq ▸ c.lab q (by simp [hq])
      · exact c.lab p (by simpa [apU, upd_ne _ _ hpq] using hp)
end
end Go.Proofs.YtjhljcnjafbkfaaDoor.X
end
section
set_option linter.unusedVariables false
namespace Go.Proofs.YtjhljcnjafbkfaaDoor.X
open Go.RowKit
section
variable {E : Env} {B : Blk} {base lim nt nx0 m : Nat} {g g' g0 : Gh} {w w' w0 : World} {ob ob0 F : ObF} {rt rt0 : RtF} {nx : Nat} {os : List Nat}
def LikeF (ob F : ObF) (os : List Nat) : Prop := ∀ o ∈ os, ∀ x, ob o = some x → ∃ y, F o = some y ∧ x.like y
theorem okL_at : ∀ {cs : List CV} {d : Bool}, okL os d cs = true → ∀ {j : Nat} {x : CV}, cs[j]? = some x → okC os d x = true
  | [], _, _, j, x, h => by simp at h
  | c :: cs, d, hk, j, x, h => by
    simp only [okL, Bool.and_eq_true] at hk
    cases j with
    | zero => simp at h; subst h; exact hk.1
    | succ j => exact okL_at hk.2 (by simpa using h)
theorem relC_move (hF : LikeF ob F os) {rt' : RtF} {nx' : Nat} {γ : Nat → Value × Nat} {β : Nat → Option Nat} {v : Value} {c : CV} (h : RelC g w ob rt nx v c) :
    okC os true c = true → RelC ⟨g.I, g.φ, γ, β⟩ w F rt' nx' v c := by
  induction h with
  | p k => exact fun _ => .p k
  | p0 k => intro h; simp [okC] at h
  | pn h0 h1 k hg => intro h; simp [okC] at h
  | pt k =>
    intro h
    obtain ⟨y, hy, l⟩ := hF _ (by simpa [okC] using h) _ k
    cases y with
    | var cs => exact .pt hy
    | arr => exact l.elim
    | mp => exact l.elim
  | mt k =>
    intro h
    obtain ⟨y, hy, l⟩ := hF _ (by simpa [okC] using h) _ k
    cases y with
    | var cs => exact l.elim
    | arr => exact l.elim
    | mp => exact .mt hy
  | pr k =>
    intro h
    obtain ⟨y, hy, l⟩ := hF _ (by simpa [okC] using h) _ k
    cases y with
    | var cs => exact l.elim
    | mp => exact l.elim
    | arr fz z rows => obtain ⟨rfl, _⟩ := l; exact .pr hy
  | vw k h1 h2 h3 h4 h5 h6 =>
    intro h
    obtain ⟨y, hy, l⟩ := hF _ (by simpa [okC] using h) _ k
    cases y with
    | var cs => exact l.elim
    | mp => exact l.elim
    | arr fz z rows => obtain ⟨rfl, hl⟩ := l; exact .vw hy (by omega) h2 h3 h4 h5 h6
  | cl hl _ ih =>
    intro h
    simp only [okC] at h
    exact .cl hl fun j x v hx hv => ih j x v hx hv (okL_at h hx)
structure Lab (g : Gh) (w : World) (ob : ObF) (B : Blk) (rt : RtF) (nx nx0 k : Nat) (seen : List Nat) (γ : Nat → Value × Nat) (β : Nat → Option Nat) : Prop where
  low : ∀ n, n < nx0 → γ n = g.γ n ∧ β n = g.β n
  own : ∀ n, nx0 ≤ n → n < k → OwnR ⟨g.I, g.φ, γ, β⟩ w ob B n
  apart : ∀ n m b, nx0 ≤ n → n < k → nx0 ≤ m → m < k → β n = some b → β m = some b → n = m
  src : ∀ n, nx0 ≤ n → n < k → ∀ b, β n = some b → ∃ q ∈ seen, q ≠ 0 ∧ nx0 ≤ q ∧ q < nx ∧ rt q = true ∧ g.β q = some b
theorem Lab.step {G : Nat → Option (List PV)} (hm : RelM G g w ob rt nx B) {k : Nat} {seen seen' : List Nat} {γ : Nat → Value × Nat} {β : Nat → Option Nat} (h : Lab g w ob B rt nx nx0 k seen γ β) (hk : nx0 ≤ k)
    (hs : ∀ q ∈ seen, q ∈ seen') (c : Value × Nat) (d : Option Nat) (ho : OwnR ⟨g.I, g.φ, upd γ k c, upd β k d⟩ w ob B k)
    (hd : ∀ b, d = some b → ∃ q ∈ seen', q ≠ 0 ∧ nx0 ≤ q ∧ q < nx ∧ rt q = true ∧ g.β q = some b ∧ q ∉ seen) : Lab g w ob B rt nx nx0 (k + 1) seen' (upd γ k c) (upd β k d) := by
  have hne : ∀ n, n < k → n ≠ k := fun n hn => by omega
  refine ⟨fun n hn => ?_, fun n h1 h2 => ?_, fun n m' b h1 h2 h3 h4 h5 h6 => ?_, fun n h1 h2 b hb => ?_⟩
  · rw [upd_ne _ _ (by omega), upd_ne _ _ (by omega)]; exact h.low n hn
  · by_cases e : n = k
    · subst e; exact ho
    · exact (h.own n h1 (by omega)).ext (upd_ne _ _ e) (upd_ne _ _ e) fun b hb => ⟨rfl, fun _ q => q, fun o x hoo hs => by
        cases h.own n h1 (by omega) with
        | full A k z q1 q2 => rw [q2] at hb; cases hb
        | own b' len cap z ee cur q1 q2 q3 q4 q5 q6 q7 q8 q9 => rw [q2] at hb; cases hb; exact q9 o x hoo hs⟩
  · by_cases e : n = k <;> by_cases e' : m' = k
    · omega
    · subst e
      rw [upd_same] at h5
      rw [upd_ne _ _ e'] at h6
      obtain ⟨q, hq, q0, q1, q2, q3, q4, q5⟩ := hd b h5
      obtain ⟨r, hr, r0, r1, r2, r3, r4⟩ := h.src m' h3 (by omega) b h6
      have := hm.apart q r b q0 r0 q2 r2 q3 r3 q4 r4
      subst this
      exact absurd hr q5
    · subst e'
      rw [upd_same] at h6
      rw [upd_ne _ _ e] at h5
      obtain ⟨q, hq, q0, q1, q2, q3, q4, q5⟩ := hd b h6
      obtain ⟨r, hr, r0, r1, r2, r3, r4⟩ := h.src n h1 (by omega) b h5
      have := hm.apart q r b q0 r0 q2 r2 q3 r3 q4 r4
      subst this
      exact absurd hr q5
    · rw [upd_ne _ _ e] at h5
      rw [upd_ne _ _ e'] at h6
      exact h.apart n m' b h1 (by omega) h3 (by omega) h5 h6
  · by_cases e : n = k
    · subst e
      rw [upd_same] at hb
      obtain ⟨q, hq, q0, q1, q2, q3, q4, q5⟩ := hd b hb
      exact ⟨q, hq, q0, q1, q2, q3, q4⟩
    · rw [upd_ne _ _ e] at hb
      obtain ⟨q, hq, r⟩ := h.src n h1 (by omega) b hb
      exact ⟨q, hs q hq, r⟩
theorem Lab.skip {G : Nat → Option (List PV)} (hm : RelM G g w ob rt nx B) {k : Nat} {seen : List Nat} {γ : Nat → Value × Nat} {β : Nat → Option Nat} (h : Lab g w ob B rt nx nx0 k seen γ β) (hk : nx0 ≤ k) :
    Lab g w ob B rt nx nx0 (k + 1) seen (upd γ k (.slice none 0 0, 0)) (upd β k none) :=
  h.step hm hk (fun _ q => q) _ _ (.full none 0 0 (upd_same ..) (upd_same ..)) fun b hb => by cases hb
theorem relC_ok {G : Nat → Option (List PV)} (hm : RelM G g w ob rt nx B) (h0 : 0 < nx0) (hnx : nx0 ≤ nx) {k : Nat} {seen : List Nat} {γ : Nat → Value × Nat} {β : Nat → Option Nat} (h : Lab g w ob B rt nx nx0 k seen γ β) (hk : nx0 ≤ k)
    {v : Value} {c : CV} (hr : RelC g w ob rt nx v c) (ho : okC os false c = true) :
    ∃ γ' β', (∀ n, n < k → γ' n = γ n ∧ β' n = β n) ∧ Lab g w ob B rt nx nx0 (k + 1) (relC rt nx0 k seen c).2 γ' β' ∧
      ∀ F, LikeF ob F os → ∀ γ'' β'' m, k + 1 ≤ m → (∀ n, n < k + 1 → γ'' n = γ' n) → RelC ⟨g.I, g.φ, γ'', β''⟩ w F (rtH rt nx0 m) m v (relC rt nx0 k seen c).1 := by
  have old : ∀ (c : Value × Nat) (d : Option Nat), ∀ n, n < k → upd γ k c n = γ n ∧ upd β k d n = β n := fun c d n hn => ⟨upd_ne _ _ (by omega), upd_ne _ _ (by omega)⟩
  have skip := h.skip hm hk
  cases hr with
  | p q => exact ⟨_, _, old _ _, skip, fun F hF γ'' β'' m hm' hγ => .p q⟩
  | p0 q =>
    rename_i A n z l
    refine ⟨_, _, old (.slice A n n, z) none, h.step hm hk (fun _ q => q) _ _ (.full A n z (upd_same ..) (upd_same ..)) (fun b hb => by cases hb), fun F hF γ'' β'' m hm' hγ => ?_⟩
    exact .pn (by omega) (by omega) q fun _ => by simp only; rw [hγ k (by omega), upd_same]
  | pn n0 n1 q hg =>
    rename_i n z l
    obtain ⟨n, rfl⟩ := Nat.exists_eq_succ_of_ne_zero n0
    simp only [relC]
    by_cases hn : n + 1 < nx0
    · rw [if_pos hn]
      refine ⟨_, _, old _ _, skip, fun F hF γ'' β'' m hm' hγ => .pn n0 (by omega) q fun ht => ?_⟩
      simp only [rtH, if_pos hn, if_neg (Nat.succ_ne_zero n)] at ht
      simp only
      rw [hγ _ (by omega), upd_ne _ _ (by omega), (h.low _ hn).1]
      exact hg ht
    · rw [if_neg hn]
      by_cases hs : rt (n + 1) = true ∧ n + 1 ∉ seen
      · rw [if_pos hs]
        have hw := hm.own (n + 1) n0 n1 hs.1
        refine ⟨_, _, old (g.γ (n + 1)) (g.β (n + 1)), h.step hm hk (fun _ q => List.mem_cons_of_mem _ q) _ _ ?_ (fun b hb => ⟨n + 1, List.mem_cons_self .., n0, by omega, n1, hs.1, hb, hs.2⟩), fun F hF γ'' β'' m hm' hγ => ?_⟩
        · cases hw with
          | full A k z q1 q2 => exact .full A _ z ((upd_same ..).trans q1) ((upd_same ..).trans q2)
          | own b' len cap z ee cur q1 q2 q3 q4 q5 q6 q7 q8 q9 => exact .own b' len cap z ee cur ((upd_same ..).trans q1) ((upd_same ..).trans q2) q3 q4 q5 q6 q7 q8 q9
        · exact .pn (by omega) (by omega) q fun _ => by simp only; rw [hγ k (by omega), upd_same]; exact hg hs.1
      · rw [if_neg hs]
        exact ⟨_, _, old _ _, skip, fun F hF γ'' β'' m hm' hγ => .p q⟩
  | pt q => exact ⟨_, _, old _ _, skip, fun F hF γ'' β'' m hm' hγ => relC_move (rt := rt) (nx := nx) hF (.pt q) ho⟩
  | pr q => exact ⟨_, _, old _ _, skip, fun F hF γ'' β'' m hm' hγ => relC_move (rt := rt) (nx := nx) hF (.pr q) ho⟩
  | vw q q1 q2 q3 q4 q5 q6 => exact ⟨_, _, old _ _, skip, fun F hF γ'' β'' m hm' hγ => relC_move (rt := rt) (nx := nx) hF (.vw q q1 q2 q3 q4 q5 q6) ho⟩
  | mt q => exact ⟨_, _, old _ _, skip, fun F hF γ'' β'' m hm' hγ => relC_move (rt := rt) (nx := nx) hF (.mt q) ho⟩
  | cl q q1 => exact ⟨_, _, old _ _, skip, fun F hF γ'' β'' m hm' hγ => relC_move (rt := rt) (nx := nx) hF (.cl q q1) ho⟩
theorem relL_ok {G : Nat → Option (List PV)} (hm : RelM G g w ob rt nx B) (h0 : 0 < nx0) (hnx : nx0 ≤ nx) : ∀ {cs : List CV} {vs : List Value} {k : Nat} {seen : List Nat} {γ : Nat → Value × Nat} {β : Nat → Option Nat},
    Lab g w ob B rt nx nx0 k seen γ β → nx0 ≤ k → vs.length = cs.length → (∀ (j : Nat) (x : CV) (v : Value), cs[j]? = some x → vs[j]? = some v → RelC g w ob rt nx v x) → okL os false cs = true →
    ∃ γ' β', (∀ n, n < k → γ' n = γ n ∧ β' n = β n) ∧ Lab g w ob B rt nx nx0 (k + cs.length) (relL rt nx0 k seen cs).2 γ' β' ∧ (relL rt nx0 k seen cs).1.length = cs.length ∧
      ∀ F, LikeF ob F os → ∀ γ'' β'' m, k + cs.length ≤ m → (∀ n, n < k + cs.length → γ'' n = γ' n) → ∀ (j : Nat) (x : CV) (v : Value), (relL rt nx0 k seen cs).1[j]? = some x → vs[j]? = some v → RelC ⟨g.I, g.φ, γ'', β''⟩ w F (rtH rt nx0 m) m v x
  | [], vs, k, seen, γ, β, h, hk, hl, hr, ho => ⟨γ, β, fun _ _ => ⟨rfl, rfl⟩, h, rfl, fun F hF γ'' β'' m hm' hγ j x v hx => by simp [relL] at hx⟩
  | c :: cs, [], k, seen, γ, β, h, hk, hl, hr, ho => by simp at hl
  | c :: cs, v :: vs, k, seen, γ, β, h, hk, hl, hr, ho => by
    simp only [okL, Bool.and_eq_true] at ho
    obtain ⟨γ1, β1, a1, a2, a3⟩ := relC_ok hm h0 hnx h hk (hr 0 c v rfl rfl) ho.1
    obtain ⟨γ2, β2, b1, b2, b3, b4⟩ := relL_ok hm h0 hnx (cs := cs) (vs := vs) a2 (by omega) (by simpa using hl) (fun j x v hx hv => hr (j + 1) x v (by simpa using hx) (by simpa using hv)) ho.2
    have e : k + (c :: cs).length = k + 1 + cs.length := by simp only [List.length_cons]; omega
    rw [e]
    refine ⟨γ2, β2, fun n hn => ⟨(b1 n (by omega)).1.trans (a1 n hn).1, (b1 n (by omega)).2.trans (a1 n hn).2⟩, b2, by simp only [relL, List.length_cons, b3], fun F hF γ'' β'' m hm' hγ j x u hx hu => ?_⟩
    simp only [relL] at hx
    cases j with
    | zero =>
      simp at hx hu
      subst hx; subst hu
      exact a3 F hF γ'' β'' m (by omega) fun n hn => (hγ n (by omega)).trans (b1 n (by omega)).1
    | succ j => exact b4 F hF γ'' β'' m hm' hγ j x u (by simpa using hx) (by simpa using hu)
theorem relC_seen {k : Nat} {seen : List Nat} {c : CV} {q : Nat} (h : q ∈ (relC rt nx0 k seen c).2) : q ∈ seen ∨ q ∈ rtsC c := by
  unfold relC at h
  split at h
  · exact .inl h
  · split at h
    · exact .inl h
    · split at h
      · rcases List.mem_cons.1 h with rfl | h
        · exact .inr (by simp [rtsC])
        · exact .inl h
      · exact .inl h
  · exact .inl h
theorem relL_seen : ∀ {cs : List CV} {k : Nat} {seen : List Nat} {q : Nat}, q ∈ (relL rt nx0 k seen cs).2 → q ∈ seen ∨ q ∈ cs.flatMap rtsC
  | [], k, seen, q, h => .inl h
  | c :: cs, k, seen, q, h => by
    simp only [relL] at h
    rcases relL_seen h with h | h
    · rcases relC_seen h with h | h
      · exact .inl h
      · exact .inr (by simp only [List.flatMap_cons, List.mem_append]; exact .inl h)
    · exact .inr (by simp only [List.flatMap_cons, List.mem_append]; exact .inr h)
theorem relT_seen {k : Nat} {seen : List Nat} {x : AT} {q : Nat} (h : q ∈ (relT rt nx0 k seen (if okT os x then x else .no)).2.2) : q ∈ seen ∨ q ∈ rtsT x := by
  split at h
  · cases x with
    | one c => exact relC_seen h
    | agg cs => exact relL_seen h
    | _ => exact .inl h
  · exact .inl h
theorem headT_seen {tm : Nat → AT} : ∀ {l : List Nat} {k : Nat} {seen : List Nat} {q : Nat}, q ∈ (headT rt nx0 os tm k seen l).2.2 → q ∈ seen ∨ q ∈ (l.map tm).flatMap rtsT
  | [], k, seen, q, h => .inl h
  | t :: l, k, seen, q, h => by
    simp only [headT] at h
    simp only [List.map_cons, List.flatMap_cons, List.mem_append]
    rcases headT_seen h with h | h
    · rcases relT_seen h with h | h
      · exact .inl h
      · exact .inr (.inl h)
    · exact .inr (.inr h)
end
end Go.Proofs.YtjhljcnjafbkfaaDoor.X
end
section
set_option linter.unusedVariables false
namespace Go.Proofs.YtjhljcnjafbkfaaDoor.X
open Go.RowKit
section
variable {E : Env} {B : Blk} {base lim nt nx0 m : Nat} {g g' g0 : Gh} {w w' w0 : World} {ob ob0 F : ObF} {rt rt0 : RtF} {nx : Nat} {os : List Nat}
theorem relT_ok {G : Nat → Option (List PV)} (hm : RelM G g w ob rt nx B) (h0 : 0 < nx0) (hnx : nx0 ≤ nx) {k : Nat} {seen : List Nat} {γ : Nat → Value × Nat} {β : Nat → Option Nat} (h : Lab g w ob B rt nx nx0 k seen γ β) (hk : nx0 ≤ k)
    {v : Value} {x : AT} (hr : RelA g w ob rt nx v x) :
    ∃ γ' β', (∀ n, n < k → γ' n = γ n ∧ β' n = β n) ∧ k ≤ (relT rt nx0 k seen (if okT os x then x else .no)).2.1 ∧ Lab g w ob B rt nx nx0 (relT rt nx0 k seen (if okT os x then x else .no)).2.1 (relT rt nx0 k seen (if okT os x then x else .no)).2.2 γ' β' ∧
      ∀ F, LikeF ob F os → ∀ γ'' β'' m, (relT rt nx0 k seen (if okT os x then x else .no)).2.1 ≤ m → (∀ n, n < (relT rt nx0 k seen (if okT os x then x else .no)).2.1 → γ'' n = γ' n) →
        RelA ⟨g.I, g.φ, γ'', β''⟩ w F (rtH rt nx0 m) m v (relT rt nx0 k seen (if okT os x then x else .no)).1 := by
  by_cases ho : okT os x = true
  · rw [if_pos ho]
    cases hr with
    | of hr =>
      cases hr with
      | no => exact ⟨γ, β, fun _ _ => ⟨rfl, rfl⟩, Nat.le_refl _, h, fun F hF γ'' β'' m hm' hγ => .of .no⟩
      | one hr =>
        obtain ⟨γ1, β1, a1, a2, a3⟩ := relC_ok (os := os) hm h0 hnx h hk hr ho
        exact ⟨γ1, β1, a1, Nat.le_succ _, a2, fun F hF γ'' β'' m hm' hγ => .of (.one (a3 F hF γ'' β'' m hm' hγ))⟩
      | agg hr =>
        rename_i vs cs
        obtain ⟨γ1, β1, a1, a2, a3, a4⟩ := relL_ok (os := os) hm h0 hnx (cs := cs) (vs := vs.toList) h hk (by simpa using hr.1) (fun j x v hx hv => hr.2 j x v hx (by simpa using hv)) ho
        exact ⟨γ1, β1, a1, Nat.le_add_right .., a2, fun F hF γ'' β'' m hm' hγ => .of (.agg ⟨hr.1.trans a3.symm, fun j x v hx hv => a4 F hF γ'' β'' m hm' hγ j x v hx (by simpa using hv)⟩)⟩
    | tup hl q => cases ho
  · rw [if_neg ho]
    exact ⟨γ, β, fun _ _ => ⟨rfl, rfl⟩, Nat.le_refl _, h, fun F hF γ'' β'' m hm' hγ => .of .no⟩
theorem headT_ok {G : Nat → Option (List PV)} (hm : RelM G g w ob rt nx B) (h0 : 0 < nx0) (hnx : nx0 ≤ nx) {ev : Nat → Value} {tm : Nat → AT} (htm : ∀ t, RelA g w ob rt nx (ev t) (tm t)) :
    ∀ {l : List Nat} {k : Nat} {seen : List Nat} {γ : Nat → Value × Nat} {β : Nat → Option Nat}, Lab g w ob B rt nx nx0 k seen γ β → nx0 ≤ k →
    ∃ γ' β', (∀ n, n < k → γ' n = γ n ∧ β' n = β n) ∧ k ≤ (headT rt nx0 os tm k seen l).2.1 ∧ Lab g w ob B rt nx nx0 (headT rt nx0 os tm k seen l).2.1 (headT rt nx0 os tm k seen l).2.2 γ' β' ∧
      ∀ F, LikeF ob F os → ∀ γ'' β'' m, (headT rt nx0 os tm k seen l).2.1 ≤ m → (∀ n, n < (headT rt nx0 os tm k seen l).2.1 → γ'' n = γ' n) →
        ∀ t, RelA ⟨g.I, g.φ, γ'', β''⟩ w F (rtH rt nx0 m) m (ev t) ((headT rt nx0 os tm k seen l).1 t)
  | [], k, seen, γ, β, h, hk => ⟨γ, β, fun _ _ => ⟨rfl, rfl⟩, Nat.le_refl _, h, fun F hF γ'' β'' m hm' hγ t => .of .no⟩
  | t :: l, k, seen, γ, β, h, hk => by
    obtain ⟨γ1, β1, a1, a2, a3, a4⟩ := relT_ok (os := os) hm h0 hnx h hk (htm t)
    obtain ⟨γ2, β2, b1, b2, b3, b4⟩ := headT_ok hm h0 hnx htm (l := l) a3 (Nat.le_trans hk a2)
    simp only [headT]
    refine ⟨γ2, β2, fun n hn => ⟨(b1 n (by omega)).1.trans (a1 n hn).1, (b1 n (by omega)).2.trans (a1 n hn).2⟩, Nat.le_trans a2 b2, b3, fun F hF γ'' β'' m hm' hγ u => ?_⟩
    by_cases e : u = t
    · subst e
      rw [upd_same]
      exact a4 F hF γ'' β'' m (Nat.le_trans b2 hm') fun n hn => (hγ n (Nat.lt_of_lt_of_le hn b2)).trans (b1 n hn).1
    · rw [upd_ne _ _ e]
      exact b4 F hF γ'' β'' m hm' hγ u
theorem headO_ok {G : Nat → Option (List PV)} (hm : RelM G g w ob rt nx B) (h0 : 0 < nx0) (hnx : nx0 ≤ nx) {rest : ObF} :
    ∀ {l : List Nat} {k : Nat} {seen : List Nat} {γ : Nat → Value × Nat} {β : Nat → Option Nat} {f : ObF} {m : Nat}, Lab g w ob B rt nx nx0 k seen γ β → nx0 ≤ k → headO rt nx0 os ob rest k seen l = some (f, m) →
    ∃ γ' β' seen', (∀ n, n < k → γ' n = γ n ∧ β' n = β n) ∧ k ≤ m ∧ Lab g w ob B rt nx nx0 m seen' γ' β' ∧ (∀ o, o ∉ l → f o = rest o) ∧ (∀ o, o ∈ l → ob o = none → f o = rest o) ∧ (∀ q ∈ seen', q ∈ seen ∨ q ∈ l.flatMap fun o => rtsO (ob o)) ∧
      ∀ o ∈ l, ∀ x, ob o = some x → ∃ y, f o = some y ∧ x.like y ∧
        ∀ F, LikeF ob F os → ∀ γ'' β'' m', m ≤ m' → (∀ n, n < m → γ'' n = γ' n) → RelObj ⟨g.I, g.φ, γ'', β''⟩ w F (rtH rt nx0 m') m' (g.φ o) y
  | [], k, seen, γ, β, f, m, h, hk, hf => by
    simp only [headO, Option.some.injEq, Prod.mk.injEq] at hf
    obtain ⟨rfl, rfl⟩ := hf
    exact ⟨γ, β, seen, fun _ _ => ⟨rfl, rfl⟩, Nat.le_refl _, h, fun _ _ => rfl, (fun o ho => by cases ho), (fun q hq => .inl hq), (fun o ho => by cases ho)⟩
  | o :: l, k, seen, γ, β, f, m, h, hk, hf => by
    simp only [headO] at hf
    split at hf
    · rename_i hob
      obtain ⟨γ1, β1, s1, a1, a2, a3, a4, a5, a7, a6⟩ := headO_ok hm h0 hnx h hk hf
      refine ⟨γ1, β1, s1, a1, a2, a3, fun q hq => a4 q fun hq' => hq (List.mem_cons_of_mem _ hq'), fun q hq hn => ?_, fun q hq => (a7 q hq).imp id fun h => by simp only [List.flatMap_cons, List.mem_append]; exact .inr h, fun q hq x hx => ?_⟩
      · by_cases hq' : q ∈ l
        · exact a5 q hq' hn
        · exact a4 q hq'
      · rcases List.mem_cons.1 hq with rfl | hq
        · rw [hob] at hx; cases hx
        · exact a6 q hq x hx
    · rename_i cs hob
      split at hf
      · rename_i hok
        split at hf
        · rename_i f1 m1 hf1
          cases hf
          have hv := (hm.obj o _ hob).1
          cases hv with
          | var e vs hh hr hI =>
            obtain ⟨γ1, β1, a1, a2, a3, a4⟩ := relL_ok (os := os) hm h0 hnx (cs := cs) (vs := vs.toList) h hk (by simpa using hr.1) (fun j x v hx hv => hr.2 j x v hx (by simpa using hv)) hok
            obtain ⟨γ2, β2, s2, b1, b2, b3, b4, b5, b7, b6⟩ := headO_ok hm h0 hnx a2 (by omega) hf1
            refine ⟨γ2, β2, s2, fun n hn => ⟨(b1 n (by omega)).1.trans (a1 n hn).1, (b1 n (by omega)).2.trans (a1 n hn).2⟩, by omega, b3, fun q hq => ?_, fun q hq hn => ?_, fun q hq => ?_, fun q hq x hx => ?_⟩
            · have hne : q ≠ o := fun e => hq (e ▸ List.mem_cons_self ..)
              rw [upd_ne _ _ hne]
              exact b4 q fun hq' => hq (List.mem_cons_of_mem _ hq')
            · have hne : q ≠ o := fun e => by rw [e, hob] at hn; cases hn
              rw [upd_ne _ _ hne]
              rcases List.mem_cons.1 hq with rfl | hq
              · exact absurd rfl hne
              · exact b5 q hq hn
            · simp only [List.flatMap_cons, List.mem_append]
              rcases b7 q hq with h | h
              · rcases relL_seen h with h | h
                · exact .inl h
                · exact .inr (.inl (by rw [hob]; exact h))
              · exact .inr (.inr h)
            · by_cases e' : q = o
              · subst e'
                rw [hob] at hx
                cases hx
                refine ⟨_, upd_same .., by simpa [Obj.like] using a3, fun F hF γ'' β'' m' hm' hγ => .var e vs hh ⟨hr.1.trans a3.symm, fun j x v hx hv => ?_⟩ hI⟩
                exact a4 F hF γ'' β'' m' (by omega) (fun n hn => (hγ n (by omega)).trans (b1 n (by omega)).1) j x v hx (by simpa using hv)
              · rw [upd_ne _ _ e']
                rcases List.mem_cons.1 hq with rfl | hq
                · exact absurd rfl e'
                · exact b6 q hq x hx
        · cases hf
      · cases hf
    · rename_i fz z rows hob
      split at hf
      · rename_i f1 m1 hf1
        cases hf
        obtain ⟨γ2, β2, s2, b1, b2, b3, b4, b5, b7, b6⟩ := headO_ok hm h0 hnx h hk hf1
        refine ⟨γ2, β2, s2, b1, b2, b3, fun q hq => ?_, fun q hq hn => ?_, fun q hq => (b7 q hq).imp id fun h => by simp only [List.flatMap_cons, List.mem_append]; exact .inr h, fun q hq x hx => ?_⟩
        · have hne : q ≠ o := fun e => hq (e ▸ List.mem_cons_self ..)
          rw [upd_ne _ _ hne]
          exact b4 q fun hq' => hq (List.mem_cons_of_mem _ hq')
        · have hne : q ≠ o := fun e => by rw [e, hob] at hn; cases hn
          rw [upd_ne _ _ hne]
          rcases List.mem_cons.1 hq with rfl | hq
          · exact absurd rfl hne
          · exact b5 q hq hn
        · by_cases e' : q = o
          · subst e'
            rw [hob] at hx
            cases hx
            refine ⟨_, upd_same .., .refl _, fun F hF γ'' β'' m' hm' hγ => ?_⟩
            cases (hm.obj q _ hob).1 with
            | nil => exact .nil
            | arr e vs h1 h2 h3 h4 h5 h6 h7 => exact .arr e vs h1 h2 h3 h4 h5 h6 h7
          · rw [upd_ne _ _ e']
            rcases List.mem_cons.1 hq with rfl | hq
            · exact absurd rfl e'
            · exact b6 q hq x hx
      · cases hf
    · rename_i es clk hob
      split at hf
      · rename_i f1 m1 hf1
        cases hf
        obtain ⟨γ2, β2, s2, b1, b2, b3, b4, b5, b7, b6⟩ := headO_ok hm h0 hnx h hk hf1
        refine ⟨γ2, β2, s2, b1, b2, b3, fun q hq => ?_, fun q hq hn => ?_, fun q hq => (b7 q hq).imp id fun h => by simp only [List.flatMap_cons, List.mem_append]; exact .inr h, fun q hq x hx => ?_⟩
        · have hne : q ≠ o := fun e => hq (e ▸ List.mem_cons_self ..)
          rw [upd_ne _ _ hne]
          exact b4 q fun hq' => hq (List.mem_cons_of_mem _ hq')
        · have hne : q ≠ o := fun e => by rw [e, hob] at hn; cases hn
          rw [upd_ne _ _ hne]
          rcases List.mem_cons.1 hq with rfl | hq
          · exact absurd rfl hne
          · exact b5 q hq hn
        · by_cases e' : q = o
          · subst e'
            rw [hob] at hx
            cases hx
            refine ⟨_, upd_same .., .refl _, fun F hF γ'' β'' m' hm' hγ => ?_⟩
            cases (hm.obj q _ hob).1 with
            | mp h1 h2 => exact .mp h1 h2
          · rw [upd_ne _ _ e']
            rcases List.mem_cons.1 hq with rfl | hq
            · exact absurd rfl e'
            · exact b6 q hq x hx
      · cases hf
theorem mem_addS : ∀ {a b : List Nat} {o : Nat}, o ∈ addS a b ↔ o ∈ a ∨ o ∈ b
  | [], b, o => by simp [addS]
  | x :: a, b, o => by
    have key : ∀ (b : List Nat), addS (x :: a) b = addS a (if b.contains x then b else x :: b) := fun b => rfl
    rw [key, mem_addS]
    split
    · rename_i h
      have h : x ∈ b := by simpa using h
      constructor
      · rintro (h1 | h1)
        · exact .inl (List.mem_cons_of_mem _ h1)
        · exact .inr h1
      · rintro (h1 | h1)
        · rcases List.mem_cons.1 h1 with rfl | h1
          · exact .inr h
          · exact .inl h1
        · exact .inr h1
    · simp only [List.mem_cons]
      constructor
      · rintro (h1 | h1 | h1)
        · exact .inl (.inr h1)
        · exact .inl (.inl h1)
        · exact .inr h1
      · rintro ((h1 | h1) | h1)
        · exact .inr (.inl h1)
        · exact .inl h1
        · exact .inr (.inr h1)
theorem mem_reach {ob : ObF} : ∀ {n : Nat} {l : List Nat} {o : Nat}, o ∈ l → o ∈ reach ob n l
  | 0, _, _, h => h
  | n + 1, l, o, h => mem_reach (n := n) (mem_addS.2 (.inr h))
variable {vis : List Nat}
theorem head0_core {G : Nat → Option (List PV)} {s s1 : St} {h : List Nat} {ev : Nat → Value} (hm : RelM G g w s.ob s.rt s.nx B) (h0 : 0 < nx0) (hnx : nx0 ≤ s.nx) (htm : ∀ t, RelA g w s.ob s.rt s.nx (ev t) (s.tm t))
    (hlow : ∀ o, (s.ob o).isSome → o < base → o ∈ vis) (hh : head0 base nx0 vis h s = some s1) :
    ∃ γ2 β2, RelM G ⟨g.I, g.φ, γ2, β2⟩ w s1.ob s1.rt s1.nx B ∧ (∀ t, RelA ⟨g.I, g.φ, γ2, β2⟩ w s1.ob s1.rt s1.nx (ev t) (s1.tm t)) ∧ (∀ o x, s1.ob o = some x → ∃ y, s.ob o = some y ∧ y.like x) ∧
      (∀ o x, s.ob o = some x → o < base ∨ o ∈ seeO s.ob (h.map s.tm) vis → ∃ y, s1.ob o = some y ∧ x.like y) ∧ (∀ n, n < nx0 → s1.rt n = true → s.rt n = true ∧ γ2 n = g.γ n) ∧ nx0 ≤ s1.nx ∧
      (∀ n b, nx0 ≤ n → n < s1.nx → β2 n = some b → ∃ q, (q ∈ (h.map s.tm).flatMap rtsT ∨ q ∈ (seeO s.ob (h.map s.tm) vis).flatMap fun o => rtsO (s.ob o)) ∧ q ≠ 0 ∧ q < s.nx ∧ s.rt q = true ∧ g.β q = some b) ∧
      (∀ o, (s1.ob o).isSome → o ∈ seeO s.ob (h.map s.tm) vis) ∧ s1.rt = rtH s.rt nx0 s1.nx := by
  unfold head0 at hh
  simp only at hh
  have hse : seeO s.ob (h.map s.tm) vis = (reach s.ob 2 (addS (h.flatMap fun t => refsT (s.tm t)) vis)).filter (fun o => (s.ob o).isSome) := by
    unfold seeO
    rw [List.flatMap_map]
  rw [← hse] at hh
  generalize hall : seeO s.ob (h.map s.tm) vis = all at hh hse
  generalize hlive : (all.filter fun o => decide (base ≤ o) || vis.contains o) = live at hh
  split at hh
  · rename_i f m hf
    cases hh
    obtain ⟨γ1, β1, a1, a2, a3, a4⟩ := headT_ok (os := all) hm h0 hnx htm (l := h) (k := nx0) (seen := []) (γ := g.γ) (β := g.β) ⟨fun _ _ => ⟨rfl, rfl⟩, fun n h1 h2 => by omega, fun n m b h1 h2 => by omega, fun n h1 h2 => by omega⟩ (Nat.le_refl _)
    obtain ⟨γ2, β2, s2, b1, b2, b3, b4, b5, b7, b6⟩ := headO_ok hm h0 hnx a3 a2 hf
    replace b5 : ∀ o, o ∈ live → s.ob o = none → f o = none := b5
    have hin : ∀ o, o ∈ live ↔ o ∈ all ∧ (base ≤ o ∨ o ∈ vis) := fun o => by rw [← hlive]; simp
    have hvis : ∀ o, o ∈ vis → (s.ob o).isSome → o ∈ all := fun o hv hs => by rw [hse]; exact List.mem_filter.2 ⟨mem_reach (mem_addS.2 (.inr hv)), hs⟩
    have hlo : ∀ o, (s.ob o).isSome → o < base → o ∈ live := fun o ho hb => (hin o).2 ⟨hvis o (hlow o ho hb) ho, .inr (hlow o ho hb)⟩
    have hout : ∀ o, o ∉ live → f o = none := b4
    have hF : LikeF s.ob f all := fun o ho x hx => by
      have hl : o ∈ live := by
        rcases Nat.lt_or_ge o base with q | q
        · exact hlo o (by rw [hx]; rfl) q
        · exact (hin o).2 ⟨ho, .inl q⟩
      obtain ⟨y, hy, l, _⟩ := b6 o hl x hx
      exact ⟨y, hy, l⟩
    have hsome : ∀ o x, f o = some x → o ∈ live ∧ ∃ y, s.ob o = some y ∧ y.like x := fun o x hx => by
      by_cases hl : o ∈ live
      · cases hs : s.ob o with
        | none => rw [b5 o hl hs] at hx; cases hx
        | some y =>
          obtain ⟨z, hz, l, _⟩ := b6 o hl y hs
          rw [hx] at hz
          cases hz
          exact ⟨hl, y, rfl, l⟩
      · rw [hout o hl] at hx
        cases hx
    have hrt : ∀ n, n < nx0 → rtH s.rt nx0 m n = true → s.rt n = true ∧ γ2 n = g.γ n := fun n hn ht => by
      simp only [rtH, if_pos hn] at ht
      split at ht
      · cases ht
      · exact ⟨ht, (b3.low n hn).1⟩
    have hmnx : nx0 ≤ m := Nat.le_trans a2 b2
    have hobj : ∀ o x, f o = some x → RelObj ⟨g.I, g.φ, γ2, β2⟩ w f (rtH s.rt nx0 m) m (g.φ o) x := fun o x hx => by
      obtain ⟨hl, y, hy, _⟩ := hsome o x hx
      obtain ⟨z, hz, _, k⟩ := b6 o hl y hy
      rw [hx] at hz
      cases hz
      exact k f hF γ2 β2 m (Nat.le_refl _) fun _ _ => rfl
    refine ⟨γ2, β2, ?_, ?_, fun o x hx => (hsome o x hx).2, fun o x hx hb => ?_, hrt, hmnx, fun n b h1 h2 h3 => ?_, fun o ho => ?_, rfl⟩
    · -- the memory
      refine ⟨by show 0 < m; omega, hm.glob, hm.size, fun o x hx => ⟨hobj o x hx, ?_⟩, fun o o' x x' hx hx' hs hs' hφ => ?_, fun n n0 hn ht => ?_, fun n q b n0 q0 hn hq htn htq hbn hbq => ?_, hm.bnd⟩
      · obtain ⟨_, y, hy, hs⟩ := hsome o x hx
        exact fun h => (hm.obj o y hy).2 (hs.solid.2 h)
      · obtain ⟨_, y, hy, q⟩ := hsome o x hx
        obtain ⟨_, y', hy', q'⟩ := hsome o' x' hx'
        exact hm.inj o o' y y' hy hy' (q.solid.2 hs) (q'.solid.2 hs') hφ
      · have sub : ∀ {c : Gh}, OwnR c w s.ob B n → OwnR c w f B n := fun {c} k => by
          cases k with
          | full A k z q1 q2 => exact .full A k z q1 q2
          | own b' len cap z ee cur q1 q2 q3 q4 q5 q6 q7 q8 q9 =>
            refine .own b' len cap z ee cur q1 q2 q3 q4 q5 q6 q7 q8 fun o x hx hs => ?_
            obtain ⟨_, y, hy, q⟩ := hsome o x hx
            exact q9 o y hy (q.solid.2 hs)
        by_cases hlo : n < nx0
        · have ht' := (hrt n hlo ht).1
          have k := hm.own n n0 (Nat.lt_of_lt_of_le hlo hnx) ht'
          refine sub (k.ext (g' := ⟨g.I, g.φ, γ2, β2⟩) (b3.low n hlo).1 (b3.low n hlo).2 fun b hb => ⟨rfl, fun _ q => q, ?_⟩)
          cases k with
          | full A k z q1 q2 => rw [q2] at hb; cases hb
          | own b' len cap z ee cur q1 q2 q3 q4 q5 q6 q7 q8 q9 => rw [q2] at hb; cases hb; exact q9
        · exact sub (b3.own n (by omega) hn)
      · simp only at hbn hbq
        by_cases h1 : n < nx0 <;> by_cases h2 : q < nx0
        · have t1 := (hrt n h1 htn).1
          have t2 := (hrt q h2 htq).1
          rw [(b3.low n h1).2] at hbn
          rw [(b3.low q h2).2] at hbq
          exact hm.apart n q b n0 q0 (Nat.lt_of_lt_of_le h1 hnx) (Nat.lt_of_lt_of_le h2 hnx) t1 t2 hbn hbq
        · obtain ⟨r, _, r0, r1, r2, r3, r4⟩ := b3.src q (by omega) hq b hbq
          rw [(b3.low n h1).2] at hbn
          have := hm.apart n r b n0 r0 (Nat.lt_of_lt_of_le h1 hnx) r2 (hrt n h1 htn).1 r3 hbn r4
          omega
        · obtain ⟨r, _, r0, r1, r2, r3, r4⟩ := b3.src n (by omega) hn b hbn
          rw [(b3.low q h2).2] at hbq
          have := hm.apart q r b q0 r0 (Nat.lt_of_lt_of_le h2 hnx) r2 (hrt q h2 htq).1 r3 hbq r4
          omega
        · exact b3.apart n q b (by omega) hn (by omega) hq hbn hbq
    · exact a4 f hF γ2 β2 m b2 fun n hn => (b1 n hn).1
    · have hl : o ∈ live := by
        rcases Nat.lt_or_ge o base with q | q
        · exact hlo o (by rw [hx]; rfl) q
        · rcases hb with hb | hb
          · omega
          · exact (hin o).2 ⟨hb, .inl q⟩
      obtain ⟨y, hy, l, _⟩ := b6 o hl x hx
      exact ⟨y, hy, l⟩
    · obtain ⟨q, hq, q0, q1, q2, q3, q4⟩ := b3.src n h1 h2 b h3
      refine ⟨q, ?_, q0, q2, q3, q4⟩
      rcases b7 q hq with hq | hq
      · rcases headT_seen hq with hq | hq
        · cases hq
        · exact .inl hq
      · refine .inr ?_
        obtain ⟨o, ho, hq⟩ := List.mem_flatMap.1 hq
        exact List.mem_flatMap.2 ⟨o, ((hin o).1 ho).1, hq⟩
    · obtain ⟨x, hx⟩ := Option.isSome_iff_exists.1 ho
      exact ((hin o).1 (hsome o x hx).1).1
  · cases hh
theorem coldC_ok {G : Nat → Option (List PV)} (hm : RelM G g w ob rt nx B) {v : Value} {c : CV} (h : RelC g w ob rt nx v c) : RelC g w ob rt nx v (coldC ob c) := by
  unfold coldC
  split
  · rename_i o lo n
    split
    · rename_i z rows ho
      refine .p (h.seen hm (by simp [pvC, ho]) (fun _ _ q => q) fun q hq fz z' rows' hq' i hi => ?_)
      obtain rfl : q = o := by simpa [seenC] using hq
      rw [ho] at hq'
      cases hq'
      cases (hm.obj q _ ho).1 with
      | nil => simp at hi
      | arr e vs h1 h2 h3 h4 h5 h6 h7 => exact h7 rfl i hi
    · exact h
  · exact h
theorem coldT_ok1 {G : Nat → Option (List PV)} (hm : RelM G g w ob rt nx B) {v : Value} {x : AT} (h : RelA1 g w ob rt nx v x) : RelA1 g w ob rt nx v (coldT ob x) := by
  cases h with
  | no => exact .no
  | one h => exact .one (coldC_ok hm h)
  | agg h =>
    refine .agg ⟨by simpa using h.1, fun j x v hx hv => ?_⟩
    simp only [List.getElem?_map, Option.map_eq_some_iff] at hx
    obtain ⟨y, hy, rfl⟩ := hx
    exact coldC_ok hm (h.2 j y v hy hv)
theorem coldT_ok {G : Nat → Option (List PV)} (hm : RelM G g w ob rt nx B) {v : Value} {x : AT} (h : RelA g w ob rt nx v x) : RelA g w ob rt nx v (coldT ob x) := by
  cases h with
  | of h => exact .of (coldT_ok1 hm h)
  | tup hl h => exact .tup hl h
theorem rtsC_cold {c : CV} : rtsC (coldC ob c) = rtsC c := by
  unfold coldC
  split
  · split <;> rfl
  · rfl
theorem rtsT_cold {x : AT} : rtsT (coldT ob x) = rtsT x := by
  cases x with
  | one c => exact rtsC_cold
  | agg cs =>
    simp only [coldT, rtsT, List.flatMap_map]
    congr 1
    funext c
    exact rtsC_cold
  | _ => rfl
theorem head_core {G : Nat → Option (List PV)} {s s1 : St} {h : List Nat} {ev : Nat → Value} (hm : RelM G g w s.ob s.rt s.nx B) (h0 : 0 < nx0) (hnx : nx0 ≤ s.nx) (htm : ∀ t, RelA g w s.ob s.rt s.nx (ev t) (s.tm t))
    (hlow : ∀ o, (s.ob o).isSome → o < base → o ∈ vis) (hh : head base nx0 vis h s = some s1) :
    ∃ γ2 β2, RelM G ⟨g.I, g.φ, γ2, β2⟩ w s1.ob s1.rt s1.nx B ∧ (∀ t, RelA ⟨g.I, g.φ, γ2, β2⟩ w s1.ob s1.rt s1.nx (ev t) (s1.tm t)) ∧ (∀ o x, s1.ob o = some x → ∃ y, s.ob o = some y ∧ y.like x) ∧
      (∀ o x, s.ob o = some x → o < base ∨ o ∈ seeO s.ob (h.map fun t => coldT s.ob (s.tm t)) vis → ∃ y, s1.ob o = some y ∧ x.like y) ∧ (∀ n, n < nx0 → s1.rt n = true → s.rt n = true ∧ γ2 n = g.γ n) ∧ nx0 ≤ s1.nx ∧
      (∀ n b, nx0 ≤ n → n < s1.nx → β2 n = some b → ∃ q, (q ∈ (h.map s.tm).flatMap rtsT ∨ q ∈ (seeO s.ob (h.map fun t => coldT s.ob (s.tm t)) vis).flatMap fun o => rtsO (s.ob o)) ∧ q ≠ 0 ∧ q < s.nx ∧ s.rt q = true ∧ g.β q = some b) ∧
      (∀ o, (s1.ob o).isSome → o ∈ seeO s.ob (h.map fun t => coldT s.ob (s.tm t)) vis) ∧ s1.rt = rtH s.rt nx0 s1.nx := by
  obtain ⟨γ2, β2, a1, a2, a3, a4, a5, a6, a7, a8, a9⟩ := head0_core (s := coldS s) (ev := ev) hm h0 hnx (fun t => coldT_ok hm (htm t)) hlow hh
  refine ⟨γ2, β2, a1, a2, a3, a4, a5, a6, fun n b h1 h2 h3 => ?_, a8, a9⟩
  obtain ⟨q, hq, r⟩ := a7 n b h1 h2 h3
  refine ⟨q, hq.imp (fun h => ?_) id, r⟩
  simp only [List.flatMap_map, coldS, rtsT_cold] at h ⊢
  exact h
end
end Go.Proofs.YtjhljcnjafbkfaaDoor.X
end
section
set_option linter.unusedVariables false
namespace Go.Proofs.YtjhljcnjafbkfaaDoor.X
open Go.RowKit
section
variable {E : Env} {B U : Blk} {base lim : Nat} {g g1 g2 g' : Gh} {w w' : World} {ob ob1 ob2 ob' : ObF} {rt rt1 rt2 rt' : RtF} {nx nx1 nx2 nx' : Nat}
theorem initTm_at : ∀ {l : List AT} {k t : Nat}, initTm l k t = if k ≤ t then l.getD (t - k) .no else .no
  | [], k, t => by simp [initTm]
  | a :: l, k, t => by
    simp only [initTm]
    by_cases e : t = k
    · subst e; simp [upd_same]
    · rw [upd_ne _ _ e, initTm_at]
      by_cases h : k ≤ t
      · have h1 : k + 1 ≤ t := by omega
        obtain ⟨d, rfl⟩ : ∃ d, t = k + 1 + d := ⟨t - (k + 1), by omega⟩
        rw [if_pos h1, if_pos h, show k + 1 + d - (k + 1) = d by omega, show k + 1 + d - k = d + 1 by omega]
        simp
      · rw [if_neg h, if_neg (by omega)]
theorem map_init (xs : List AT) (f : AT → AT) : (List.range xs.length).map (fun t => f (initTm xs 0 t)) = xs.map f := by
  refine List.ext_getElem (by simp) fun i h1 h2 => ?_
  simp at h1 h2
  simp [initTm_at, h1]
theorem noDup_iff : ∀ {l : List Nat}, noDup l = true → l.Nodup
  | [], _ => List.nodup_nil
  | x :: l, h => by
    simp only [noDup, Bool.and_eq_true, Bool.not_eq_true', List.contains_eq_mem, decide_eq_false_iff_not] at h
    exact List.nodup_cons.2 ⟨h.1, noDup_iff h.2⟩
theorem posIn_mem : ∀ {l : List Nat} {o : Nat}, o ∈ l → l[posIn l o]? = some o
  | [], o, h => by cases h
  | x :: l, o, h => by
    simp only [posIn]
    by_cases e : o = x
    · rw [if_pos e]; simp [e]
    · rw [if_neg e]
      simp only [List.getElem?_cons_succ]
      exact posIn_mem ((List.mem_cons.1 h).resolve_left e)
theorem posIn_at : ∀ {l : List Nat} {i o : Nat}, l.Nodup → l[i]? = some o → posIn l o = i
  | [], i, o, _, h => by simp at h
  | x :: l, i, o, hn, h => by
    simp only [posIn]
    obtain ⟨h1, h2⟩ := List.nodup_cons.1 hn
    cases i with
    | zero => simp at h; rw [if_pos h.symm]
    | succ i =>
      have h' : l[i]? = some o := by simpa using h
      have hm := List.mem_of_getElem? h'
      rw [if_neg (fun e : o = x => h1 (e ▸ hm)), posIn_at h2 h']
theorem inO_at {f : Nat → Nat} : ∀ {L : List Nat} {k q : Nat}, inO ob f L k q = if k ≤ q then (L[q - k]?).bind fun o => (ob o).map (renO f 0) else none
  | [], k, q => by simp [inO, noOb]
  | o :: L, k, q => by
    have ih := inO_at (f := f) (L := L) (k := k + 1) (q := q)
    have step : (if k + 1 ≤ q then (L[q - (k + 1)]?).bind fun o => (ob o).map (renO f 0) else none) = if k + 1 ≤ q then ((o :: L)[q - k]?).bind fun o => (ob o).map (renO f 0) else none := by
      split
      · rename_i h
        rw [show q - k = q - (k + 1) + 1 by omega]
        simp
      · rfl
    simp only [inO]
    cases hx : ob o with
    | some x =>
      simp only
      by_cases e : q = k
      · subst e
        simp [upd_same, hx]
      · rw [upd_ne _ _ e, ih, step]
        by_cases h : k ≤ q
        · rw [if_pos h, if_pos (by omega)]
        · rw [if_neg h, if_neg (by omega)]
    | none =>
      simp only
      rw [ih, step]
      by_cases e : q = k
      · subst e
        rw [if_neg (by omega), if_pos (Nat.le_refl _)]
        simp [hx]
      · by_cases h : k ≤ q
        · rw [if_pos h, if_pos (by omega)]
        · rw [if_neg h, if_neg (by omega)]
theorem takeO_at {L : List Nat} {q : Nat} : takeO ob L q = (L[q]?).bind fun o => (ob o).map (renO (posIn L) 0) := by
  unfold takeO
  rw [inO_at]
  simp
theorem renL_map {f : Nat → Nat} {sh : Nat} : ∀ {cs : List CV}, renL f sh cs = cs.map (renC f sh)
  | [] => rfl
  | c :: cs => by simp only [renL, List.map_cons, renL_map]
theorem renO_like {f : Nat → Nat} {sh : Nat} (x : Obj) : x.like (renO f sh x) := by
  cases x with
  | var cs => simp [renO, Obj.like, renL_map]
  | arr fz z rows => exact .refl _
  | mp => exact .refl _
theorem RelC.ren {f : Nat → Nat} {sh : Nat} (hI : ∀ b i, g.I b i → g2.I b i) (hO : ∀ p x, ob p = some x → ob2 (f p) = some (renO f sh x) ∧ g2.φ (f p) = g.φ p)
    (hR : ∀ n, n ≠ 0 → n < nx → n + sh < nx2 ∧ (rt2 (n + sh) = true → rt n = true ∧ g2.γ (n + sh) = g.γ n)) {v : Value} {c : CV} (h : RelC g w ob rt nx v c) : RelC g2 w ob2 rt2 nx2 v (renC f sh c) := by
  induction h with
  | p k => exact .p (k.mono hI fun _ _ _ => rfl)
  | p0 k => exact .p0 (k.mono hI fun _ _ _ => rfl)
  | @pn n z v l h0 h1 k hg =>
    obtain ⟨r1, r2⟩ := hR n h0 h1
    simp only [renC, if_neg h0]
    exact .pn (by omega) r1 (k.mono hI fun _ _ _ => rfl) fun ht => by obtain ⟨a, b⟩ := r2 ht; exact b.trans (hg a)
  | @pt o off cs k =>
    obtain ⟨a, b⟩ := hO _ _ k
    rw [← b]
    exact .pt a
  | @mt o es k k' =>
    obtain ⟨a, b⟩ := hO _ _ k'
    rw [← b]
    exact .mt a
  | @pr o r off fz z rows k =>
    obtain ⟨a, b⟩ := hO _ _ k
    rw [← b]
    exact .pr a
  | @vw o lo n cap A fz z rows k h1 h2 h3 h4 h5 h6 =>
    obtain ⟨a, b⟩ := hO _ _ k
    exact .vw a h1 h2 h3 h4 h5 fun hn => by rw [b]; exact h6 hn
  | @cl f' caps cs hl hr ih =>
    simp only [renC, renL_map]
    refine .cl (by simpa using hl) fun j x v hx hv => ?_
    simp only [List.getElem?_map, Option.map_eq_some_iff] at hx
    obtain ⟨y, hy, rfl⟩ := hx
    exact ih j y v hy hv
theorem RelL.ren {f : Nat → Nat} {sh : Nat} (hC : ∀ {v : Value} {c : CV}, RelC g w ob rt nx v c → RelC g2 w ob2 rt2 nx2 v (renC f sh c)) {vs : Array Value} {cs : List CV} (h : RelL g w ob rt nx vs cs) : RelL g2 w ob2 rt2 nx2 vs (renL f sh cs) := by
  rw [renL_map]
  refine ⟨by simpa using h.1, fun j x v hx hv => ?_⟩
  simp only [List.getElem?_map, Option.map_eq_some_iff] at hx
  obtain ⟨y, hy, rfl⟩ := hx
  exact hC (h.2 j y v hy hv)
theorem RelA1.ren {f : Nat → Nat} {sh : Nat} (hC : ∀ {v : Value} {c : CV}, RelC g w ob rt nx v c → RelC g2 w ob2 rt2 nx2 v (renC f sh c)) {v : Value} {x : AT} (h : RelA1 g w ob rt nx v x) : RelA1 g2 w ob2 rt2 nx2 v (renT f sh x) := by
  cases h with
  | no => exact .no
  | one h => exact .one (hC h)
  | agg h => exact .agg (RelL.ren hC h)
theorem atC_ren {f : Nat → Nat} {sh : Nat} (t : Bool × List CV) : atC (t.1, renL f sh t.2) = renT f sh (atC t) := by
  obtain ⟨b, l⟩ := t
  cases b with
  | true => rfl
  | false =>
    match l with
    | [] => rfl
    | [x] => rfl
    | _ :: _ :: _ => rfl
theorem RelA.ren {f : Nat → Nat} {sh : Nat} (hC : ∀ {v : Value} {c : CV}, RelC g w ob rt nx v c → RelC g2 w ob2 rt2 nx2 v (renC f sh c)) {v : Value} {x : AT} (h : RelA g w ob rt nx v x) : RelA g2 w ob2 rt2 nx2 v (renT f sh x) := by
  cases h with
  | of h => exact .of (RelA1.ren hC h)
  | tup hl h =>
    refine .tup (by simpa using hl) fun j t v ht hv => ?_
    simp only [List.getElem?_map, Option.map_eq_some_iff] at ht
    obtain ⟨y, hy, rfl⟩ := ht
    rw [atC_ren]
    exact RelA1.ren hC (h j y v hy hv)
theorem RelObj.ren {f : Nat → Nat} {sh : Nat} (hI : g2.I = g.I) (hC : ∀ {v : Value} {c : CV}, RelC g w ob rt nx v c → RelC g2 w ob2 rt2 nx2 v (renC f sh c)) {b : Nat} {x : Obj} (h : RelObj g w ob rt nx b x) : RelObj g2 w ob2 rt2 nx2 b (renO f sh x) := by
  cases h with
  | nil => exact .nil
  | var e vs h1 h2 h3 => exact .var e vs h1 (RelL.ren hC h2) (by rw [hI]; exact h3)
  | mp h1 h2 => exact .mp h1 (by rw [hI]; exact h2)
  | arr e vs h1 h2 h3 h4 h5 h6 h7 => exact .arr e vs h1 h2 h3 h4 (by rw [hI]; exact h5) (by rw [hI]; exact h6) (by rw [hI]; exact h7)
def tk (g : Gh) (L : List Nat) : Gh := { g with φ := fun i => g.φ (L.getD i 0) }
theorem take_obj {L : List Nat} (hn : L.Nodup) (hall : ∀ o, (ob o).isSome → o ∈ L) : ∀ p x, ob p = some x → takeO ob L (posIn L p) = some (renO (posIn L) 0 x) ∧ (tk g L).φ (posIn L p) = g.φ p := by
  intro p x hx
  have := posIn_mem (hall p (by rw [hx]; rfl))
  refine ⟨by rw [takeO_at, this]; simp [hx], ?_⟩
  simp [tk, List.getD_eq_getElem?_getD, this]
theorem take_rel {L : List Nat} (hn : L.Nodup) (hall : ∀ o, (ob o).isSome → o ∈ L) {v : Value} {c : CV} (h : RelC g w ob rt nx v c) : RelC (tk g L) w (takeO ob L) rt nx v (renC (posIn L) 0 c) :=
  RelC.ren (g := g) (g2 := tk g L) (w := w) (ob := ob) (ob2 := takeO ob L) (rt := rt) (rt2 := rt) (nx := nx) (nx2 := nx) (sh := 0) (fun _ _ q => q) (take_obj hn hall) (fun n _ h1 => ⟨h1, fun ht => ⟨ht, rfl⟩⟩) h
theorem RelM.take {G : Nat → Option (List PV)} (h : RelM G g w ob rt nx B) {L : List Nat} (hn : L.Nodup) (hall : ∀ o, (ob o).isSome → o ∈ L) (h1 : ∀ b, U b → b < w.heap.size) (h2 : ∀ o x, ob o = some x → x.solid → ¬ U (g.φ o))
    (h3 : ∀ n, n ≠ 0 → n < nx → rt n = true → ∀ b, g.β n = some b → ¬ U b) : RelM G (tk g L) w (takeO ob L) rt nx U := by
  have from' : ∀ i x, takeO ob L i = some x → ∃ o y, L[i]? = some o ∧ ob o = some y ∧ x = renO (posIn L) 0 y ∧ (tk g L).φ i = g.φ o := fun i x hx => by
    rw [takeO_at] at hx
    cases ho : L[i]? with
    | none => rw [ho] at hx; cases hx
    | some o =>
      rw [ho] at hx
      simp only [Option.bind_some, Option.map_eq_some_iff] at hx
      obtain ⟨y, hy, rfl⟩ := hx
      exact ⟨o, y, rfl, hy, rfl, by simp [tk, List.getD_eq_getElem?_getD, ho]⟩
  refine ⟨h.pos, h.glob, h1, fun i x hx => ?_, fun i j x y hx hy sx sy hφ => ?_, fun n n0 hn' ht => ?_, h.apart, h.bnd⟩
  · obtain ⟨o, y, _, hy, rfl, hφ⟩ := from' i x hx
    rw [hφ]
    exact ⟨RelObj.ren (g := g) (g2 := tk g L) rfl (fun k => take_rel hn hall k) (h.obj o y hy).1, fun hs => h2 o y hy ((renO_like y).solid.2 hs)⟩
  · obtain ⟨o, a, ho, ha, rfl, e1⟩ := from' i x hx
    obtain ⟨p, c, hp, hc, rfl, e2⟩ := from' j y hy
    rw [e1, e2] at hφ
    have := h.inj o p a c ha hc ((renO_like a).solid.2 sx) ((renO_like c).solid.2 sy) hφ
    subst this
    rw [← posIn_at hn ho, ← posIn_at hn hp]
  · cases h.own n n0 hn' ht with
    | full A k z q1 q2 => exact .full A k z q1 q2
    | own b' len cap z ee cur q1 q2 q3 q4 q5 q6 q7 q8 q9 =>
      refine .own b' len cap z ee cur q1 q2 (h3 n n0 hn' ht b' q2) q4 q5 q6 q7 q8 fun i x hx hs => ?_
      obtain ⟨o, y, _, hy, rfl, hφ⟩ := from' i x hx
      rw [hφ]
      exact q9 o y hy ((renO_like y).solid.2 hs)
theorem backO_mem {f : Nat → Nat} {sh : Nat} : ∀ {tg : List Nat} {p q : Nat} {y : Obj}, (q, y) ∈ backO ob' f sh tg p ↔ ∃ i x, tg[i]? = some q ∧ ob' (p + i) = some x ∧ y = renO f sh x
  | [], p, q, y => by simp [backO]
  | t :: tg, p, q, y => by
    have ih := backO_mem (f := f) (sh := sh) (tg := tg) (p := p + 1) (q := q) (y := y)
    simp only [backO]
    constructor
    · intro h
      split at h
      · rename_i x hx
        rcases List.mem_cons.1 h with h | h
        · cases h
          exact ⟨0, x, rfl, hx, rfl⟩
        · obtain ⟨i, x, h1, h2, h3⟩ := ih.1 h
          exact ⟨i + 1, x, by simpa using h1, by rw [← h2]; congr 1; omega, h3⟩
      · obtain ⟨i, x, h1, h2, h3⟩ := ih.1 h
        exact ⟨i + 1, x, by simpa using h1, by rw [← h2]; congr 1; omega, h3⟩
    · rintro ⟨i, x, h1, h2, rfl⟩
      cases i with
      | zero =>
        simp at h1
        subst h1
        rw [Nat.add_zero] at h2
        rw [h2]
        exact List.mem_cons_self ..
      | succ i =>
        have := ih.2 ⟨i, x, by simpa using h1, by rw [← h2]; congr 1; omega, rfl⟩
        split
        · exact List.mem_cons_of_mem _ this
        · exact this
theorem putAll_find : ∀ {l : List (Nat × Obj)} {ob : ObF} {q : Nat}, (∃ x, (q, x) ∈ l ∧ putAll ob l q = some x) ∨ ((∀ x, (q, x) ∉ l) ∧ putAll ob l q = ob q)
  | [], ob, q => .inr ⟨fun x h => (by cases h), rfl⟩
  | (p, y) :: l, ob, q => by
    rcases putAll_find (l := l) (ob := upd ob p (some y)) (q := q) with ⟨x, h1, h2⟩ | ⟨h1, h2⟩
    · exact .inl ⟨x, List.mem_cons_of_mem _ h1, h2⟩
    · by_cases e : q = p
      · subst e
        exact .inl ⟨y, List.mem_cons_self .., by show putAll (upd ob q (some y)) l q = _; rw [h2, upd_same]⟩
      · refine .inr ⟨fun x h => ?_, by show putAll (upd ob p (some y)) l q = _; rw [h2, upd_ne _ _ e]⟩
        rcases List.mem_cons.1 h with h | h
        · cases h; exact e rfl
        · exact h1 x h
theorem merge {G : Nat → Option (List PV)} (hm : RelM G g w ob rt nx B) (hlab : ∀ o, (ob o).isSome → o < lim) {os news used : List Nat} (hU1 : ∀ b, B b → U b) (hU2 : ∀ o x, ob o = some x → x.solid → o ∉ os → U (g.φ o))
    (hU3 : ∀ n, n ≠ 0 → n < nx → rt n = true → n ∉ used → ∀ b, g.β n = some b → U b) (hos : ∀ o ∈ os, (ob o).isSome) (hnews : ∀ q ∈ news, ob q = none ∧ q < lim) (hn1 : os.Nodup) (hn2 : news.Nodup)
    (hg1 : g1.I = g.I) (h1 : ∀ i o x, os[i]? = some o → ob o = some x → ∃ x1, ob1 i = some x1 ∧ x.like x1 ∧ g1.φ i = g.φ o)
    (he : Ext U os.length g1 w ob1 rt1 nx1 g' w' ob' rt' nx') (hm' : RelM G g' w' ob' rt' nx' U) (hlab' : ∀ o, (ob' o).isSome → o < (os ++ news).length) :
    ∃ g2 : Gh, Ext B lim g w ob rt nx g2 w' (putAll ob (backO ob' (fun p => (os ++ news).getD p 0) nx (os ++ news) 0)) (fun n => if n < nx then rt n && !(used.contains n) else !(n == nx) && rt' (n - nx)) (nx + nx') ∧
      RelM G g2 w' (putAll ob (backO ob' (fun p => (os ++ news).getD p 0) nx (os ++ news) 0)) (fun n => if n < nx then rt n && !(used.contains n) else !(n == nx) && rt' (n - nx)) (nx + nx') B ∧
      (∀ o, (putAll ob (backO ob' (fun p => (os ++ news).getD p 0) nx (os ++ news) 0) o).isSome → o < lim) ∧
      ∀ {v : Value} {c : CV}, RelC g' w' ob' rt' nx' v c → RelC g2 w' (putAll ob (backO ob' (fun p => (os ++ news).getD p 0) nx (os ++ news) 0)) (fun n => if n < nx then rt n && !(used.contains n) else !(n == nx) && rt' (n - nx)) (nx + nx') v
        (renC (fun p => (os ++ news).getD p 0) nx c) := by
  generalize hrt2 : (fun n => if n < nx then rt n && !(used.contains n) else !(n == nx) && rt' (n - nx) : RtF) = rt2
  generalize htg : os ++ news = tg at hlab' ⊢
  have hnt : tg.Nodup := by
    rw [← htg]
    refine List.nodup_append.2 ⟨hn1, hn2, fun a ha b hb e => ?_⟩
    subst e
    have := hos a ha
    rw [(hnews a hb).1] at this
    cases this
  have hbk : ∀ p q, tg[p]? = some q → tg.getD p 0 = q := fun p q h => by simp [List.getD_eq_getElem?_getD, h]
  generalize hob2 : putAll ob (backO ob' (fun p => tg.getD p 0) nx tg 0) = ob2
  -- where a variable comes from
  have look : ∀ q, (∃ p x, tg[p]? = some q ∧ ob' p = some x ∧ ob2 q = some (renO (fun p => tg.getD p 0) nx x)) ∨ ((∀ p, tg[p]? = some q → ob' p = none) ∧ ob2 q = ob q) := fun q => by
    rcases putAll_find (l := backO ob' (fun p => tg.getD p 0) nx tg 0) (ob := ob) (q := q) with ⟨y, h1, h2⟩ | ⟨h1, h2⟩
    · obtain ⟨i, x, a, b, rfl⟩ := backO_mem.1 h1
      rw [Nat.zero_add] at b
      exact .inl ⟨i, x, a, b, by rw [← hob2]; exact h2⟩
    · refine .inr ⟨fun p hp => ?_, by rw [← hob2]; exact h2⟩
      cases hx : ob' p with
      | none => rfl
      | some x => exact absurd (backO_mem.2 ⟨p, x, hp, by rw [Nat.zero_add]; exact hx, rfl⟩) (h1 _)
  have there : ∀ p x, ob' p = some x → ∃ q, tg[p]? = some q ∧ ob2 q = some (renO (fun p => tg.getD p 0) nx x) := fun p x hx => by
    have hp := hlab' p (by rw [hx]; rfl)
    have hq := List.getElem?_eq_getElem hp
    refine ⟨tg[p], hq, ?_⟩
    rcases look tg[p] with ⟨p', x', a, b, c⟩ | ⟨a, _⟩
    · have e1 := posIn_at hnt a
      have e2 := posIn_at hnt hq
      have : p' = p := e1.symm.trans e2
      subst this
      rw [hx] at b
      cases b
      exact c
    · rw [a p hq] at hx; cases hx
  have inTg : ∀ i o, os[i]? = some o → tg[i]? = some o := fun i o h => by rw [← htg, List.getElem?_append_left (List.getElem?_eq_some_iff.1 h).1]; exact h
  have osNew : ∀ i o x, os[i]? = some o → ob o = some x → ∃ y, ob' i = some y ∧ x.like y ∧ g'.φ i = g.φ o := fun i o x hi hx => by
    obtain ⟨x1, a, b, c⟩ := h1 i o x hi hx
    have hil := (List.getElem?_eq_some_iff.1 hi).1
    obtain ⟨y, hy, l⟩ := he.like i x1 hil a
    exact ⟨y, hy, b.trans l, (he.φ i hil (by rw [a]; rfl)).trans c⟩
  let φ2 : Nat → Nat := fun q => if q ∈ tg ∧ (ob' (posIn tg q)).isSome then g'.φ (posIn tg q) else g.φ q
  have φnew : ∀ p q x, tg[p]? = some q → ob' p = some x → φ2 q = g'.φ p := fun p q x hq hx => by
    have e := posIn_at hnt hq
    show (if _ then _ else _) = _
    rw [if_pos ⟨List.mem_of_getElem? hq, by rw [e, hx]; rfl⟩, e]
  have φold : ∀ q, (∀ p, tg[p]? = some q → ob' p = none) → φ2 q = g.φ q := fun q h => by
    show (if _ then _ else _) = _
    rw [if_neg]
    rintro ⟨a, b⟩
    rw [h _ (posIn_mem a)] at b
    cases b
  have notOs : ∀ q, (ob q).isSome → (∀ p, tg[p]? = some q → ob' p = none) → q ∉ os := fun q hs h hq => by
    obtain ⟨x, hx⟩ := Option.isSome_iff_exists.1 hs
    have hi := posIn_mem hq
    obtain ⟨y, hy, _⟩ := osNew _ q x hi hx
    rw [h _ (inTg _ _ hi)] at hy
    cases hy
  let γ2 : Nat → Value × Nat := fun n => if n < nx then g.γ n else g'.γ (n - nx)
  let β2 : Nat → Option Nat := fun n => if n < nx then g.β n else g'.β (n - nx)
  have rtLo : ∀ n, n < nx → rt2 n = true → rt n = true ∧ n ∉ used := fun n hn ht => by
    rw [← hrt2] at ht
    simp only [if_pos hn, Bool.and_eq_true, Bool.not_eq_true', List.contains_eq_mem, decide_eq_false_iff_not] at ht
    exact ht
  have rtHi : ∀ n, ¬ n < nx → rt2 n = true → n - nx ≠ 0 ∧ rt' (n - nx) = true := fun n hn ht => by
    rw [← hrt2] at ht
    simp only [if_neg hn, Bool.and_eq_true, Bool.not_eq_true', beq_eq_false_iff_ne] at ht
    exact ⟨by have := ht.1; omega, ht.2⟩
  have hE : Ext B lim g w ob rt nx ⟨g'.I, φ2, γ2, β2⟩ w' ob2 rt2 (nx + nx') := by
    refine ⟨he.below.mono hU1, fun b i h => he.I b i (by rw [hg1]; exact h), fun b i hb h => by have := he.old b i (hU1 b hb) h; rwa [hg1] at this, fun b i h => he.cell b i (by rw [hg1]; exact h), fun o x _ hx => ?_, fun o _ ho => ?_, fun n hn ht => ?_, Nat.le_add_right ..⟩
    · rcases look o with ⟨p, y, a, b, c⟩ | ⟨a, b⟩
      · refine ⟨_, c, ?_⟩
        have hmem := List.mem_of_getElem? a
        rw [← htg] at hmem
        rcases List.mem_append.1 hmem with h | h
        · have hi := posIn_mem h
          obtain ⟨z, hz, l, _⟩ := osNew _ o x hi hx
          have e1 := posIn_at hnt (inTg _ _ hi)
          have e2 := posIn_at hnt a
          rw [← e1, e2] at hz
          rw [b] at hz
          cases hz
          exact l.trans (renO_like _)
        · rw [(hnews o h).1] at hx; cases hx
      · exact ⟨x, by rw [b]; exact hx, .refl x⟩
    · obtain ⟨x, hx⟩ := Option.isSome_iff_exists.1 ho
      rcases look o with ⟨p, y, a, b, c⟩ | ⟨a, b⟩
      · show φ2 o = _
        rw [φnew p o y a b]
        have hmem := List.mem_of_getElem? a
        rw [← htg] at hmem
        rcases List.mem_append.1 hmem with h | h
        · have hi := posIn_mem h
          obtain ⟨z, hz, _, l⟩ := osNew _ o x hi hx
          have e1 := posIn_at hnt (inTg _ _ hi)
          have e2 := posIn_at hnt a
          rw [← e1, e2] at l
          exact l
        · rw [(hnews o h).1] at hx; cases hx
      · exact φold o a
    · exact ⟨(rtLo n hn ht).1, by show (if _ then _ else _) = _; rw [if_pos hn]⟩
  have hC : ∀ {v : Value} {c : CV}, RelC g' w' ob' rt' nx' v c → RelC ⟨g'.I, φ2, γ2, β2⟩ w' ob2 rt2 (nx + nx') v (renC (fun p => tg.getD p 0) nx c) := fun h =>
    RelC.ren (g := g') (g2 := ⟨g'.I, φ2, γ2, β2⟩) (w := w') (ob := ob') (ob2 := ob2) (rt := rt') (rt2 := rt2) (nx := nx') (nx2 := nx + nx') (sh := nx) (f := fun p => tg.getD p 0) (fun _ _ q => q) (fun p x hx => by
      obtain ⟨q, a, b⟩ := there p x hx
      simp only [hbk p q a]
      exact ⟨b, φnew p q x a hx⟩) (fun n n0 hn => ⟨by omega, fun ht => by
        have h2 := rtHi (n + nx) (by omega) ht
        rw [Nat.add_sub_cancel] at h2
        exact ⟨h2.2, by show (if _ then _ else _) = _; rw [if_neg (by omega), Nat.add_sub_cancel]⟩⟩) h
  refine ⟨⟨g'.I, φ2, γ2, β2⟩, hE, ⟨by have := hm.pos; omega, fun k cs hk => (hm.glob k cs hk).ext hE, fun b hb => Nat.lt_of_lt_of_le (hm.size b hb) he.below.size, fun q y hq => ?_, fun q q' y y' hq hq' sy sy' hφ => ?_, fun n n0 hn ht => ?_, fun n m b n0 m0 hn hm0 tn tm bn bm => ?_, hm'.bnd⟩, fun q hq => ?_, hC⟩
  · rcases look q with ⟨p, x, a, b, c⟩ | ⟨a, b⟩
    · rw [hq] at c
      cases c
      show RelObj _ _ _ _ _ (φ2 q) _ ∧ (_ → ¬ B (φ2 q))
      rw [φnew p q x a b]
      obtain ⟨k1, k2⟩ := hm'.obj p x b
      exact ⟨RelObj.ren (g := g') (g2 := ⟨g'.I, φ2, γ2, β2⟩) rfl hC k1, fun hs hb => k2 ((renO_like x).solid.2 hs) (hU1 _ hb)⟩
    · rw [b] at hq
      have hno := notOs q (by rw [hq]; rfl) a
      obtain ⟨k1, k2⟩ := hm.obj q y hq
      show RelObj _ _ _ _ _ (φ2 q) _ ∧ (_ → ¬ B (φ2 q))
      rw [φold q a]
      refine ⟨k1.ext hE hlab (fun hs => he.below.block _ (hU2 q y hq hs hno)) fun hs i hi => ?_, k2⟩
      have := he.old _ i (hU2 q y hq hs hno) hi
      rwa [hg1] at this
  · have cases' : ∀ q y, ob2 q = some y → y.solid → (∃ p x, tg[p]? = some q ∧ ob' p = some x ∧ x.solid ∧ φ2 q = g'.φ p ∧ ¬ U (φ2 q)) ∨ (ob q = some y ∧ φ2 q = g.φ q ∧ U (φ2 q)) := fun q y hq sy => by
      rcases look q with ⟨p, x, a, b, c⟩ | ⟨a, b⟩
      · rw [hq] at c
        cases c
        have sx := (renO_like x).solid.2 sy
        exact .inl ⟨p, x, a, b, sx, φnew p q x a b, by rw [φnew p q x a b]; exact (hm'.obj p x b).2 sx⟩
      · rw [b] at hq
        exact .inr ⟨hq, φold q a, by rw [φold q a]; exact hU2 q y hq sy (notOs q (by rw [hq]; rfl) a)⟩
    have hφ : φ2 q = φ2 q' := hφ
    rcases cases' q y hq sy with ⟨p, x, a, b, c, d, e⟩ | ⟨a, b, c⟩ <;> rcases cases' q' y' hq' sy' with ⟨p', x', a', b', c', d', e'⟩ | ⟨a', b', c'⟩
    · rw [d, d'] at hφ
      have := hm'.inj p p' x x' b b' c c' hφ
      subst this
      rw [a] at a'
      exact Option.some.inj a'
    · rw [hφ] at e; exact absurd c' e
    · rw [hφ] at c; exact absurd c e'
    · rw [b, b'] at hφ
      exact hm.inj q q' y y' a a' sy sy' hφ
  · have apartO : ∀ b, (U b → (∀ o x, ob o = some x → x.solid → g.φ o ≠ b)) → (¬ U b → (∀ o x, ob' o = some x → x.solid → g'.φ o ≠ b)) → ∀ o x, ob2 o = some x → x.solid → φ2 o ≠ b := fun b k1 k2 o x hx hs => by
      rcases look o with ⟨p, y, a, c, d⟩ | ⟨a, c⟩
      · rw [hx] at d
        cases d
        have sy := (renO_like y).solid.2 hs
        rw [φnew p o y a c]
        by_cases hb : U b
        · exact fun e => (hm'.obj p y c).2 sy (e ▸ hb)
        · exact k2 hb p y c sy
      · rw [c] at hx
        rw [φold o a]
        by_cases hb : U b
        · exact k1 hb o x hx hs
        · exact fun e => hb (e ▸ hU2 o x hx hs (notOs o (by rw [hx]; rfl) a))
    by_cases hlo : n < nx
    · obtain ⟨t1, t2⟩ := rtLo n hlo ht
      have k := hm.own n n0 hlo t1
      refine k.ext (by show (if _ then _ else _) = _; rw [if_pos hlo]) (by show (if _ then _ else _) = _; rw [if_pos hlo]) fun b hb => ?_
      have hub := hU3 n n0 hlo t1 t2 b hb
      refine ⟨he.below.block b hub, fun i hi => by have := he.old b i hub hi; rwa [hg1] at this, apartO b (fun _ => ?_) fun h => absurd hub h⟩
      cases k with
      | full A k z q1 q2 => rw [q2] at hb; cases hb
      | own b' len cap z ee cur q1 q2 q3 q4 q5 q6 q7 q8 q9 => rw [q2] at hb; cases hb; exact q9
    · obtain ⟨m0, t1⟩ := rtHi n hlo ht
      cases hm'.own (n - nx) m0 (by omega) t1 with
      | full A k z q1 q2 => exact .full A k z (by show (if _ then _ else _) = _; rw [if_neg hlo]; exact q1) (by show (if _ then _ else _) = _; rw [if_neg hlo]; exact q2)
      | own b' len cap z ee cur q1 q2 q3 q4 q5 q6 q7 q8 q9 =>
        exact .own b' len cap z ee cur (by show (if _ then _ else _) = _; rw [if_neg hlo]; exact q1) (by show (if _ then _ else _) = _; rw [if_neg hlo]; exact q2) (fun hb => q3 (hU1 _ hb)) q4 q5 q6 q7 q8
          (apartO b' (fun h => absurd h q3) fun _ => q9)
  · have up : ∀ n, n < nx → β2 n = g.β n := fun n h => by show (if _ then _ else _) = _; rw [if_pos h]
    have dn : ∀ n, ¬ n < nx → β2 n = g'.β (n - nx) := fun n h => by show (if _ then _ else _) = _; rw [if_neg h]
    have side : ∀ n, ¬ n < nx → n < nx + nx' → rt2 n = true → β2 n = some b → ¬ U b := fun n h h' t hb => by
      obtain ⟨m0, t1⟩ := rtHi n h t
      rw [dn n h] at hb
      exact ((hm'.own (n - nx) m0 (by omega) t1).lt hb).2
    have bn : β2 n = some b := bn
    have bm : β2 m = some b := bm
    by_cases h1 : n < nx <;> by_cases h2 : m < nx
    · obtain ⟨t1, _⟩ := rtLo n h1 tn
      obtain ⟨t2, _⟩ := rtLo m h2 tm
      rw [up n h1] at bn
      rw [up m h2] at bm
      exact hm.apart n m b n0 m0 h1 h2 t1 t2 bn bm
    · obtain ⟨t1, u1⟩ := rtLo n h1 tn
      rw [up n h1] at bn
      exact absurd (hU3 n n0 h1 t1 u1 b bn) (side m h2 hm0 tm bm)
    · obtain ⟨t1, u1⟩ := rtLo m h2 tm
      rw [up m h2] at bm
      exact absurd (hU3 m m0 h2 t1 u1 b bm) (side n h1 hn tn bn)
    · obtain ⟨a0, t1⟩ := rtHi n h1 tn
      obtain ⟨c0, t2⟩ := rtHi m h2 tm
      rw [dn n h1] at bn
      rw [dn m h2] at bm
      have := hm'.apart (n - nx) (m - nx) b a0 c0 (by omega) (by omega) t1 t2 bn bm
      omega
  · rcases look q with ⟨p, x, a, b, c⟩ | ⟨a, b⟩
    · have hmem := List.mem_of_getElem? a
      rw [← htg] at hmem
      rcases List.mem_append.1 hmem with h | h
      · exact hlab q (hos q h)
      · exact (hnews q h).2
    · rw [b] at hq
      exact hlab q hq
end
end Go.Proofs.YtjhljcnjafbkfaaDoor.X
end
section
set_option linter.unusedVariables false
namespace Go.Proofs.YtjhljcnjafbkfaaDoor.X
open Go.RowKit
section
variable {E : Env} {B U : Blk} {base lim : Nat} {g g1 g2 g' : Gh} {w w' : World} {ob ob1 ob2 ob' : ObF} {rt rt1 rt2 rt' : RtF} {nx nx1 nx2 nx' : Nat}
theorem Ext.drew {lim : Nat} {ob : ObF} {rt : RtF} {nx : Nat} : Ext B lim g w ob rt nx g { w with drawn := w.drawn + 1 } ob rt nx :=
  ⟨⟨rfl, rfl, rfl, Nat.le_refl _, fun _ _ => rfl⟩, fun _ _ h => h, fun _ _ _ h => h, fun _ _ _ => rfl, fun o x _ h => ⟨x, h, .refl x⟩, fun _ _ _ => rfl, fun _ _ h => ⟨h, rfl⟩, Nat.le_refl _⟩
theorem RelM.drew {G : Nat → Option (List PV)} {lim : Nat} {ob : ObF} {rt : RtF} {nx : Nat} (h : RelM G g w ob rt nx B) (hb : ∀ o, (ob o).isSome → o < lim) : RelM G g { w with drawn := w.drawn + 1 } ob rt nx B := by
  have e : Ext B lim g w ob rt nx g { w with drawn := w.drawn + 1 } ob rt nx := Ext.drew
  exact ⟨h.pos, fun k cs hk => (h.glob k cs hk).ext e, h.size, fun o x ho => ⟨(h.obj o x ho).1.ext e hb (fun _ => rfl) fun _ _ h => h, (h.obj o x ho).2⟩, h.inj,
    fun n h0 h1 h2 => (h.own n h0 h1 h2).ext rfl rfl fun b hbb => ⟨rfl, fun _ h => h, fun o x ho hs => by
      cases h.own n h0 h1 h2 with
      | full A k z q1 q2 => rw [q2] at hbb; cases hbb
      | own b' len cap z ee cur q1 q2 q3 q4 q5 q6 q7 q8 q9 => rw [q2] at hbb; cases hbb; exact q9 o x ho hs⟩, h.apart, h.bnd⟩
theorem ResRel.map {g' : Gh} {w' : World} {ob' : ObF} {rt' : RtF} {nx' : Nat} {v : Value} {l rs : List AT} (h : ResRel g w ob rt nx v l) (hl : rs.length = l.length)
    (hm : ∀ (i : Nat) (x y : AT) (u : Value), l[i]? = some x → rs[i]? = some y → RelA g w ob rt nx u x → RelA g' w' ob' rt' nx' u y) : ResRel g' w' ob' rt' nx' v rs := by
  have key : (∃ vs : Array Value, v = .tuple vs ∧ RelAs g w ob rt nx vs.toList l) → ∃ vs : Array Value, v = .tuple vs ∧ RelAs g' w' ob' rt' nx' vs.toList rs := by
    rintro ⟨vs, rfl, h1, h2⟩
    refine ⟨vs, rfl, h1.trans hl.symm, fun i y u hy hu => ?_⟩
    have hi := (List.getElem?_eq_some_iff.1 hy).1
    have hx := List.getElem?_eq_getElem (l := l) (i := i) (by omega)
    exact hm i _ y u hx hy (h2 i _ u hx hu)
  match l, rs, hl, h with
  | [x], [y], _, h => exact hm 0 x y v rfl rfl h
  | [], [], _, h => exact key h
  | a :: b :: l, c :: d :: m, hl, h => exact key h
  | [], _ :: _, hl, _ => simp at hl
  | [_], [], hl, _ => simp at hl
  | [_], _ :: _ :: _, hl, _ => simp at hl
  | _ :: _ :: _, [], hl, _ => simp at hl
  | _ :: _ :: _, [_], hl, _ => simp at hl
theorem Cur.callMv {s : St} {a : Act} {call : CallF} (hcall : CallOk E call) (c : Cur E B lim s g a w) {o : Oper} {f : Operand} {args : Array Operand} {ts : Array TypeId} {k : FuncId} {caps : Array Value} {cs : List AT}
    (ho : o.op = .call { callee := .value f, args, argTypes := ts }) (hf : a.eval f = .func (.func k) #[] caps) (hlen : args.toList.length = ts.toList.length) (hcs : RelAs g w s.ob s.rt s.nx caps.toList cs) {d : Nat} (hd : base + d + 12288 < lim) {u : Upd}
    (h : mvCall call base d k (((args.toList.zip ts.toList).map fun p => X.opT E (evOpd E s.tm) p.2 p.1) ++ cs) s.ob s.rt s.nx = some u) : OpOk E B lim s g a w o u := by
  have hx := (args_rep c hlen).append hcs
  generalize hxs : (((args.toList.zip ts.toList).map fun p => X.opT E (evOpd E s.tm) p.2 p.1) ++ cs) = xs at h hx
  have hvals : (args.map a.eval ++ caps).toList = args.toList.map a.eval ++ caps.toList := by simp
  generalize hvs : args.map a.eval ++ caps = vals at hvals
  rw [← hvals] at hx
  unfold mvCall at h
  split at h
  · rename_i s1 hh
    simp only at h
    split at h
    · rename_i hnd
      split at h
      · rename_i rs ob' rt' nx' hc
        unfold mvEnd at h
        simp only at h
        split at h
        · rename_i hnews
          simp only [Option.map_eq_some_iff] at h
          obtain ⟨r, hr, rfl⟩ := h
          obtain ⟨γ2, β2, a1, a2, a3, a4, a5, a6, a7, a8, a9⟩ := head_core (base := 0) (nx0 := 1) (vis := []) (s := ⟨initTm xs 0, s.ob, s.rt, s.nx⟩) (ev := fun t => vals.getD t undef) c.mem Nat.one_pos c.mem.pos (fun t => by
            simp only [initTm_at, Nat.zero_le, if_true, Nat.sub_zero]
            by_cases ht : t < xs.length
            · have h1 : xs[t]? = some xs[t] := List.getElem?_eq_getElem ht
              have htv : t < vals.size := by have := hx.1; rw [Array.length_toList] at this; omega
              have h2 : vals.toList[t]? = some (vals[t]'htv) := by rw [Array.getElem?_toList]; exact Array.getElem?_eq_getElem htv
              rw [List.getD_eq_getElem?_getD, h1]
              simp only [Array.getD_eq_getD_getElem?, Array.getElem?_eq_getElem htv]
              exact hx.2 t _ _ h1 h2
            · rw [List.getD_eq_getElem?_getD, List.getElem?_eq_none (Nat.le_of_not_lt ht)]
              exact .of .no) (fun o _ h => absurd h (Nat.not_lt_zero _)) hh
          simp only [map_init xs (coldT s.ob)] at a4 a7 a8
          have hmi : (List.range xs.length).map (initTm xs 0) = xs := by simpa using map_init xs id
          rw [hmi] at a7
          generalize hos : (seeO s.ob (xs.map (coldT s.ob)) []).reverse = os at hnd hc hr hnews ⊢
          have hmem : ∀ o, o ∈ seeO s.ob (xs.map (coldT s.ob)) [] ↔ o ∈ os := fun o => by rw [← hos]; exact List.mem_reverse.symm
          have halive : ∀ o ∈ os, (s.ob o).isSome := fun o ho => by
            have := (hmem o).2 ho
            unfold seeO at this
            exact (List.mem_filter.1 this).2
          have hn1 := noDup_iff hnd
          generalize hus : (xs.flatMap rtsT ++ os.flatMap fun o => rtsO (s.ob o)) = used at hr ⊢
          have hused : ∀ q, (q ∈ xs.flatMap rtsT ∨ q ∈ (seeO s.ob (xs.map (coldT s.ob)) []).flatMap fun o => rtsO (s.ob o)) → q ∈ used := fun q h => by
            rw [← hus]
            rcases h with h | h
            · exact List.mem_append_left _ h
            · obtain ⟨o, h1, h2⟩ := List.mem_flatMap.1 h
              exact List.mem_append_right _ (List.mem_flatMap.2 ⟨o, (hmem o).1 h1, h2⟩)
          obtain ⟨U, hU⟩ : ∃ U : Blk, ∀ b, U b ↔ (b < w.heap.size ∧ (∀ o x, s1.ob o = some x → x.solid → g.φ o ≠ b) ∧ ∀ n, n ≠ 0 → n < s1.nx → s1.rt n = true → β2 n ≠ some b) := ⟨_, fun _ => Iff.rfl⟩
          have hM1 := RelM.take (U := U) a1 (L := os) hn1 (fun o ho => (hmem o).1 (a8 o ho)) (fun b hb => ((hU b).1 hb).1) (fun o x hx hs hb => ((hU _).1 hb).2.1 o x hx hs rfl)
            (fun n n0 hn ht b hb hU' => ((hU b).1 hU').2.2 n n0 hn ht hb)
          have hlab1 : ∀ i, (takeO s1.ob os i).isSome → i < os.length := fun i hi => by
            rw [takeO_at] at hi
            rcases Nat.lt_or_ge i os.length with h | h
            · exact h
            · rw [List.getElem?_eq_none h] at hi; cases hi
          have hargs : RelAs (tk ⟨g.I, g.φ, γ2, β2⟩ os) w (takeO s1.ob os) s1.rt s1.nx vals.toList ((List.range xs.length).map fun i => renT (posIn os) 0 (s1.tm i)) := by
            refine ⟨by rw [hx.1]; simp, fun i y v hy hv => ?_⟩
            simp only [List.getElem?_map, Option.map_eq_some_iff] at hy
            obtain ⟨j, hj, rfl⟩ := hy
            obtain ⟨_, hji⟩ := List.getElem?_eq_some_iff.1 hj
            simp at hji
            subst hji
            have := RelA.ren (fun k => take_rel hn1 (fun o ho => (hmem o).1 (a8 o ho)) k) (a2 i)
            have hv' : vals[i]? = some v := by simpa using hv
            rw [Array.getD_eq_getD_getElem?, hv'] at this
            exact this
          obtain ⟨he, hcal⟩ := hcall _ _ _ _ _ _ _ _ _ _ _ hc
          intro K Q hK
          unfold Oper.wp
          rw [exec_call ho hf he, hvs]
          refine (hcal (tk ⟨g.I, g.φ, γ2, β2⟩ os) w U vals hM1 hlab1 hargs).mono fun e w' hq => ?_
          obtain ⟨v, g', rfl, q1, q2, q3, q4⟩ := hq
          have hnl : ∀ q ∈ [base + d, base + d + 4096, base + d + 8192, base + d + 12288], s.ob q = none ∧ q < lim := fun q hq => by
            refine ⟨?_, ?_⟩
            · have := List.all_eq_true.1 hnews q hq
              simpa using this
            · simp only [List.mem_cons, List.not_mem_nil, or_false] at hq
              rcases hq with rfl | rfl | rfl | rfl <;> omega
          obtain ⟨g2, m1, m2, m3, m4⟩ := merge (U := U) (g1 := tk ⟨g.I, g.φ, γ2, β2⟩ os) (ob1 := takeO s1.ob os) (rt1 := s1.rt) (nx1 := s1.nx) (g' := g') (w' := w') (ob' := ob') (rt' := rt') (nx' := nx') c.mem c.lab (os := os) (news := [base + d, base + d + 4096, base + d + 8192, base + d + 12288]) (used := used)
            (fun b hb => (hU b).2 ⟨c.mem.size b hb, fun o x hx hs e => by
              obtain ⟨y, hy, l⟩ := a3 o x hx
              exact (c.mem.obj o y hy).2 (l.solid.2 hs) (e ▸ hb), fun n n0 hn ht e => ((a1.own n n0 hn ht).lt e).2 hb⟩)
            (fun o x hx hs hno => (hU _).2 ⟨(c.mem.obj o x hx).1.lt hs, fun o' x' hx' hs' e => by
              obtain ⟨y, hy, l⟩ := a3 o' x' hx'
              have := c.mem.inj o' o y x hy hx (l.solid.2 hs') hs e
              subst this
              exact hno ((hmem o').1 (a8 o' (by rw [hx']; rfl))), fun n n0 hn ht e => by
              obtain ⟨q, _, q0, q1, q2, q3⟩ := a7 n _ (by omega) hn e
              cases c.mem.own q q0 q1 q2 with
              | full A k z r1 r2 => rw [r2] at q3; cases q3
              | own b' len cap z ee cur r1 r2 r3 r4 r5 r6 r7 r8 r9 => rw [r2] at q3; cases q3; exact r9 o x hx hs rfl⟩)
            (fun n n0 hn ht hnu b hb => (hU b).2 ⟨((c.mem.own n n0 hn ht).lt hb).1, fun o x hx hs e => by
              obtain ⟨y, hy, l⟩ := a3 o x hx
              cases c.mem.own n n0 hn ht with
              | full A k z r1 r2 => rw [r2] at hb; cases hb
              | own b' len cap z ee cur r1 r2 r3 r4 r5 r6 r7 r8 r9 => rw [r2] at hb; cases hb; exact r9 o y hy (l.solid.2 hs) e, fun m m0 hm tm e => by
              obtain ⟨q, hq, q0, q1, q2, q3⟩ := a7 m b (by omega) hm e
              have := c.mem.apart n q b n0 q0 hn q1 ht q2 hb q3
              subst this
              exact hnu (hused n hq)⟩)
            halive hnl hn1 (by
              simp only [List.nodup_cons, List.mem_cons, List.not_mem_nil, or_false, not_or, List.nodup_nil, and_true, not_false_eq_true]
              omega)
            rfl (fun i o x hi hx => by
              obtain ⟨y, hy, l⟩ := a4 o x hx (.inr ((hmem o).2 (List.mem_of_getElem? hi)))
              refine ⟨renO (posIn os) 0 y, by rw [takeO_at, hi]; simp [hy], l.trans (renO_like y), ?_⟩
              simp [tk, List.getD_eq_getElem?_getD, hi]) q1 q2 (fun o ho => by
              have := q3 o ho
              simp only [lastN, if_true] at this
              simpa using this)
          refine hK v g2 w' ⟨m1, m2, m3, resAll_rep (q4.map (by simp) fun i x y u hx hy hu => ?_) hr⟩
          simp only [List.getElem?_map, Option.map_eq_some_iff] at hy
          obtain ⟨x', hx', rfl⟩ := hy
          rw [hx] at hx'
          cases hx'
          exact RelA.ren m4 hu
        · cases h
      · cases h
    · cases h
  · cases h
theorem Ext.empty {z : Nat} {o : Nat} (ho : ob o = none) : Ext B base g w ob rt nx g w (upd ob o (some (.arr false z []))) rt nx where
  below := Keep.refl B w
  I _ _ hi := hi
  old _ _ _ hi := hi
  cell _ _ _ := rfl
  like p y _ hy := by
    have hne : p ≠ o := fun e => by subst e; rw [ho] at hy; cases hy
    exact ⟨y, by rw [upd_ne _ _ hne]; exact hy, .refl y⟩
  φ _ _ _ := rfl
  rt _ _ ht := ⟨ht, rfl⟩
  nx := Nat.le_refl _
theorem RelM.empty {G : Nat → Option (List PV)} (h : RelM G g w ob rt nx B) (hb : ∀ o, (ob o).isSome → o < base) {z o : Nat} (ho : ob o = none) : RelM G g w (upd ob o (some (.arr false z []))) rt nx B := by
  have hE : Ext B base g w ob rt nx g w (upd ob o (some (.arr false z []))) rt nx := Ext.empty ho
  have key : ∀ p y, upd ob o (some (.arr false z [])) p = some y → y.solid → ob p = some y := fun p y hy hs => by
    by_cases e : p = o
    · subst e; rw [upd_same] at hy; cases hy; exact hs.elim
    · rwa [upd_ne _ _ e] at hy
  refine ⟨h.pos, h.glob, h.size, fun p y hy => ?_, fun p q x y hp hq sx sy hφ => h.inj p q x y (key p x hp sx) (key q y hq sy) sx sy hφ, fun n n0 hn ht => ?_, h.apart, h.bnd⟩
  · by_cases e : p = o
    · subst e
      rw [upd_same] at hy
      cases hy
      exact ⟨.nil, fun h => h.elim⟩
    · rw [upd_ne _ _ e] at hy
      obtain ⟨q, r⟩ := h.obj p y hy
      exact ⟨q.ext hE hb (fun _ => rfl) (fun _ i hi => hi), r⟩
  · cases h.own n n0 hn ht with
    | full A k z q1 q2 => exact .full A k z q1 q2
    | own b' len cap z ee cur q1 q2 q3 q4 q5 q6 q7 q8 q9 => exact .own b' len cap z ee cur q1 q2 q3 q4 q5 q6 q7 q8 fun p x hx hs => q9 p x (key p x hx hs) hs
theorem Cur.appendNew {s : St} {a : Act} (c : Cur E B lim s g a w) {o : Oper} {t : TypeId} {x y : Operand} (ho : o.op = .call { callee := .builtin .append, args := #[x, y], argTypes := #[t, t] }) {ti te : TI}
    (hT : E.T t = some ti) (hk : ti.kd = 3) (hTe : E.T ti.e = some te) {l : List (List PV)} {cy : CV} (hx : X.opT E (evOpd E s.tm) t x = .one (.p (some 0) (.sl ti.esz [])))
    (hy : X.opT E (evOpd E s.tm) t y = .one cy) (hl : pvC s.ob cy = some (.sl ti.esz l)) (h0 : 0 < ti.esz) (hlen : l.length ≤ 16777216) (hby : ti.eby ≤ 4096) {q : Nat} (hq : s.ob q = none) (hql : q < lim) {rd : List Nat} :
    OpOk E B lim s g a w o { val := .one (.vw q 0 l.length), ow := [(q, .arr false ti.esz l)], rd := rd } := by
  have h1 := c.opT t x
  rw [hx] at h1
  have h2 := c.opT t y
  rw [hy] at h2
  obtain ⟨hd, j, hj, hjz, hjb, _⟩ := (tiOk hT).sli hk
  obtain ⟨d, i, zv, hd', hi, hsz, hzv, hza, hzl, _⟩ := (tiOk hTe).base
  rw [hj] at hi
  cases hi
  have hzz : zv.cells.size = ti.esz := by
    have := (zero_all (g := g) (w := w) (ob := s.ob) (rt := s.rt) (nx := s.nx) hza).1
    simp at this
    omega
  obtain ⟨kr, kf, kn⟩ := (one_rep h1).slice
  obtain ⟨A, k, hA⟩ := kf rfl
  rw [hA] at kr
  have hsp : ∀ ad, A = some ad → ad.spot = none := by
    generalize hnn : ([] : List (List PV)) = nl at kr
    cases kr with
    | sl f q1 q2 q3 q4 => exact q4
  have hk0 : k = 0 := by
    generalize hnn : ([] : List (List PV)) = nl at kr
    cases kr
    rw [← hnn]
    rfl
  subst hk0
  obtain ⟨A', cap', us, hv, hR, hone, hnil, hcell⟩ := src_rows c.mem (one_rep h2) hl
  have lab' : ∀ z, ∀ p, ((apU none ({ val := .one (.vw q 0 l.length), ow := [(q, .arr false ti.esz z)], rd := rd } : Upd) s).ob p).isSome → p < lim := fun z p hp => by
    by_cases hpq : p = q
    · exact hpq ▸ hql
    · exact c.lab p (by simpa [apU, upd_ne _ _ hpq] using hp)
  by_cases hm : l.length = 0
  · have hl0 := List.eq_nil_of_length_eq_zero hm
    subst hl0
    have hr := append_none (P := E.P) (w := w) t o.type ti.e j hd hj A 0 0 (Nat.le_refl _) A' cap'
    refine .value (v := .slice A 0 0) (g' := g) (w' := w) ?_ ⟨Ext.empty hq, c.mem.empty c.lab hq, lab' [], .of (.one (.vw (upd_same _ _ _) (by simp) (Nat.le_refl _) (Nat.zero_le _) (fun _ => rfl) (fun ad had => ?_) (fun h => absurd rfl h)))⟩
    · simp only [List.length_nil] at hv
      simp only [execOp, ho, resolve, invoke, builtin, Sem.run_bind, Sem.run_pure, Result.andThen_ok, List.map_toArray, List.map_cons, List.map_nil, hA, hv, hr]
    · exact hsp ad had
  · have hm0 : 0 < l.length := Nat.pos_of_ne_zero hm
    obtain ⟨a', rfl⟩ : ∃ a, A' = some a := by
      cases A' with
      | none => have := hnil rfl; omega
      | some a => exact ⟨a, rfl⟩
    have hul : us.toList.length = l.length * ti.esz := by rw [Array.length_toList]; exact hR.1
    have hnews : ∀ j u, us.toList[j]? = some u → w.cell? (a'.add j) = some u := fun j u hu => hcell a' rfl j u hu
    have hneed : l.length ≤ maxLen := by simp only [maxLen]; omega
    have hbytes : l.length * j.bytes ≤ 140737488355328 := Nat.le_trans (Nat.mul_le_mul hlen (by omega : j.bytes ≤ 4096)) (by decide)
    have hr : (Builtin.append_ #[t, t] o.type #[.slice A 0 0, .slice (some a') l.length cap']).run E.P w =
        .ok (.slice (some ⟨w.heap.size, 0, none⟩) l.length (grownCap w l.length 0 ti.e)) (w.drew.alloc (.cells (us.toList.toArray ++ Builtin.zeroCells zv.cells (grownCap w l.length 0 ti.e - l.length)) ti.e)) := by
      cases A with
      | none =>
        exact run_append_nil (P := E.P) w t o.type ti.e j zv hd hj hzv a' l.length cap' us.toList (by rw [hul, hjz]) hnews hm0 (by simp only [maxLen] at hneed; omega) (Nat.le_trans hbytes (by decide))
      | some ad =>
        have := run_append_grow (P := E.P) w t o.type ti.e j zv hd hj hzv ad 0 0 [] (by simp) (fun j u hu => by simp at hu) a' l.length cap' us.toList (by rw [hul, hjz]) hnews
          (by omega) (by simp only [maxLen] at hneed; omega) (growslice_fits (by omega) (by simpa using hbytes))
        simpa using this
    have hge := grownCap_ge w l.length 0 ti.e
    have hle := grownCap_le_maxLen w l.length 0 ti.e hneed
    have hMd : RelM E.G g w.drew s.ob s.rt s.nx B := c.mem.drew c.lab
    have hEd : Ext B lim g w s.ob s.rt s.nx g w.drew s.ob s.rt s.nx := Ext.drew
    have hE := hEd.trans (Ext.var (base := lim) hMd hq (.cells (us.toList.toArray ++ Builtin.zeroCells zv.cells (grownCap w l.length 0 ti.e - l.length)) ti.e) (.arr false ti.esz l))
    have hM := RelM.var hMd c.lab hq (.cells (us.toList.toArray ++ Builtin.zeroCells zv.cells (grownCap w l.length 0 ti.e - l.length)) ti.e) (.arr false ti.esz l)
      (.arr ti.e _ (heap_new w.drew _) (by simp only [Array.size_append, List.size_toArray, hul]; omega) hneed hR.2.1 (fun i r j x v hr' hx' hv' => by
        have hj' : j < ti.esz := by rw [← hR.2.1 i r hr']; exact (List.getElem?_eq_some_iff.1 hx').1
        have hlt : i * ti.esz + j < l.length * ti.esz := at_lt (List.getElem?_eq_some_iff.1 hr').1 hj'
        rw [Array.getElem?_append_left (by simp only [List.size_toArray, hul]; exact hlt)] at hv'
        exact (hR.2.2 i r j x v hr' hx' (by simpa using hv')).ext hE)
        (fun _ i hi => absurd (c.mem.bnd _ i hi) (Nat.lt_irrefl _)) (fun h => by cases h))
    refine .value (g' := { g with φ := upd g.φ q w.heap.size }) (v := .slice (some ⟨w.heap.size, 0, none⟩) l.length (grownCap w l.length 0 ti.e))
      (w' := w.drew.alloc (.cells (us.toList.toArray ++ Builtin.zeroCells zv.cells (grownCap w l.length 0 ti.e - l.length)) ti.e)) ?_ ⟨hE, hM, lab' l, ?_⟩
    · simp only [execOp, ho, resolve, invoke, builtin, Sem.run_bind, Sem.run_pure, Result.andThen_ok, List.map_toArray, List.map_cons, List.map_nil, hA, hv, hr]
    · refine .of (.one (.vw (upd_same _ _ _) (by simp) hge hle (fun h => by cases h) (fun a ha => by cases ha; rfl) fun _ => ?_))
      simp only [upd_same, Nat.zero_mul]
theorem zero_seen' : ∀ {cs : List CV} {vs : List Value}, zeroAll cs vs = true → cs.flatMap seenC = []
  | [], _, _ => rfl
  | b :: cs, [], h => by simp [zeroAll] at h
  | b :: cs, v :: vs, h => by
    simp only [zeroAll, Bool.and_eq_true] at h
    rw [List.flatMap_cons, zero_seen' h.2]
    have := h.1
    unfold zeroFits at this
    split at this <;> first | rfl | cases this
theorem zero_rows1 {te : TI} {ob : ObF} {z : List PV} {G : Nat → Option (List PV)} (hm : RelM G g w ob rt nx B) {zv : Value} (hza : zeroAll te.zero zv.cells.toList = true) (hz : pvL ob te.zero = some z) :
    zv.cells.size = z.length ∧ ∀ (j : Nat) (x : PV) (v : Value), z[j]? = some x → zv.cells.toList[j]? = some v → RepP g.I w v x := by
  have hrel := zero_all (g := g) (w := w) (ob := ob) (rt := rt) (nx := nx) hza
  simp only [Array.toArray_toList] at hrel
  obtain ⟨h1, h2⟩ := RelL.seen hm (I := g.I) (fun _ _ q => q) (vs := zv.cells.toList) (by rw [Array.length_toList]; exact hrel.1) (fun j x v hx hv => hrel.2 j x v hx (by simpa using hv)) hz
    (fun p hp => by rw [zero_seen' hza] at hp; cases hp)
  exact ⟨by rw [hrel.1, h1], h2⟩
theorem Cur.clear {s : St} {a : Act} (c : Cur E B lim s g a w) {o : Oper} {t : TypeId} {x : Operand} (ho : o.op = .call { callee := .builtin .clear, args := #[x], argTypes := #[t] }) {ti te : TI}
    (hT : E.T t = some ti) (hk : ti.kd = 3) (hTe : E.T ti.e = some te) {q lo n : Nat} {rows : List (List PV)} {z : List PV} (hx : evOpd E s.tm x = .one (.vw q lo n)) (hq : s.ob q = some (.arr false ti.esz rows))
    (hz : pvL s.ob te.zero = some z) (hzl : z.length = ti.esz) (hle : lo + n ≤ rows.length) {rd : List Nat} :
    OpOk E B lim s g a w o { val := .tup [], ow := [(q, .arr false ti.esz (splice rows lo (List.replicate n z)))], rd := rd } := by
  obtain ⟨hd, j, hj, hjz, hjb, _⟩ := (tiOk hT).sli hk
  obtain ⟨d, i, zv, hd', hi, hsz, hzv, hza, hzl', _⟩ := (tiOk hTe).base
  rw [hj] at hi
  cases hi
  obtain ⟨hzs, hzr⟩ := zero_rows1 c.mem hza hz
  have hxr := c.opd x
  rw [hx] at hxr
  have hxr := one_rep hxr
  generalize hev : a.eval x = ev at hxr
  cases hxr with
  | vw hq' r1 r2 r3 r4 r5 r6 =>
    rename_i cap' A' fz' z' rows'
    rw [hq] at hq'
    cases hq'
    by_cases hn : n = 0
    · subst hn
      have e0 : splice rows lo (List.replicate 0 z) = rows := by simp [splice]
      have eo : upd s.ob q (some (.arr false ti.esz rows)) = s.ob := by
        funext p
        by_cases hp : p = q
        · rw [hp, upd_same, hq]
        · rw [upd_ne _ _ hp]
      have hap : (apU none ({ val := .tup [], ow := [(q, .arr false ti.esz rows)], rd := rd } : Upd) s) = s := by
        simp [apU, eo]
      rw [e0]
      refine .value (v := .tuple #[]) (g' := g) (w' := w) ?_ ⟨by rw [hap]; exact Ext.refl .., by rw [hap]; exact c.mem, by rw [hap]; exact c.lab, .tup rfl fun j t v h => by simp at h⟩
      cases A' <;> simp [execOp, ho, resolve, invoke, builtin, Builtin.clear_, run_underlying hd, hev]
    · have hA := r6 hn
      subst hA
      have hne : rows ≠ [] := fun e => by subst e; simp at hle; omega
      obtain ⟨e, cur, hh, hR0, hmx⟩ := (c.mem.obj q _ hq).1.rows hne
      have hI := c.mem.frozen hq hne
      have hzc : (Builtin.zeroCells zv.cells n).size = n * ti.esz := by rw [size_zeroCells, hzs, hzl]
      have hR : RowsRel g.I w ti.esz (Builtin.zeroCells zv.cells n) (List.replicate n z) := by
        refine ⟨by rw [hzc, List.length_replicate], fun i r hr => ?_, fun i r j' x v hr' hx' hv' => ?_⟩
        · rw [List.getElem?_replicate] at hr
          split at hr <;> simp at hr
          rw [← hr]; exact hzl
        · rw [List.getElem?_replicate] at hr'
          split at hr'
          · rename_i hin
            cases hr'
            have hj' : j' < ti.esz := by rw [← hzl]; exact (List.getElem?_eq_some_iff.1 hx').1
            have hlt : i * ti.esz + j' < n * zv.cells.size := by rw [hzs, hzl]; exact at_lt hin hj'
            rw [Builtin.zeroCells, Array.getElem?_map, Array.getElem?_range, if_pos hlt] at hv'
            simp only [Option.map_some, Option.some.injEq] at hv'
            refine hzr j' x v hx' ?_
            have e1 : (i * ti.esz + j') % zv.cells.size = j' := by rw [hzs, hzl, Nat.mul_comm, Nat.mul_add_mod, Nat.mod_eq_of_lt hj']
            rw [e1] at hv'
            have hj2 : j' < zv.cells.size := by omega
            rw [Array.getElem?_toList, Array.getElem?_eq_getElem hj2, ← hv']
            simp [hj2]
          · cases hr'
      have hone : ∀ v ∈ (Builtin.zeroCells zv.cells n).toList, v.oneCell' = true := fun v hv => by
        obtain ⟨k, hk, e2⟩ := List.mem_iff_getElem.1 hv
        have hk' : k < n * ti.esz := by simp only [Array.length_toList, hzc] at hk; exact hk
        have hz0 : 0 < ti.esz := Nat.pos_of_ne_zero fun h => by rw [h] at hk'; simp at hk'
        have hi : k / ti.esz < n := (Nat.div_lt_iff_lt_mul hz0).2 hk'
        have hm : k % ti.esz < z.length := by rw [hzl]; exact Nat.mod_lt _ hz0
        have e3 : k / ti.esz * ti.esz + k % ti.esz = k := by rw [Nat.mul_comm]; exact Nat.div_add_mod k ti.esz
        refine flat_one (RepP.flat (hR.2.2 (k / ti.esz) z (k % ti.esz) z[k % ti.esz] v (by rw [List.getElem?_replicate, if_pos hi]) (List.getElem?_eq_getElem hm) ?_))
        rw [e3, ← Array.getElem?_toList, List.getElem?_eq_getElem hk, e2]
      have hR2 := hR0.splice hR (lo := lo) (by rw [List.length_replicate]; exact hle)
      have hlike : Obj.like (.arr false ti.esz rows) (.arr false ti.esz (splice rows lo (List.replicate n z))) := ⟨rfl, splice_length (by rw [List.length_replicate]; exact hle)⟩
      have hE : Ext B lim g w s.ob s.rt s.nx g (w.setRow (g.φ q) (splice cur.toList (lo * ti.esz) (Builtin.zeroCells zv.cells n).toList).toArray) (upd s.ob q (some (.arr false ti.esz (splice rows lo (List.replicate n z))))) s.rt s.nx :=
        Ext.store c.mem hq hlike (Obj.solid_ne hne) _ hI
      have hM := RelM.store c.mem c.lab hq hlike (Obj.solid_ne hne) (splice cur.toList (lo * ti.esz) (Builtin.zeroCells zv.cells n).toList).toArray hI
        (.arr e _ (setRow_heap w _ cur _ e (0, 0) hh) hR2.1 (by rw [splice_length (by rw [List.length_replicate]; exact hle)]; exact hmx) hR2.2.1 (fun i r j x v q1 q2 q3 => (hR2.2.2 i r j x v q1 q2 q3).ext hE) (fun _ => hI) (fun h => by cases h))
      refine .value (v := .tuple #[]) (g' := g) (w' := w.setRow (g.φ q) (splice cur.toList (lo * ti.esz) (Builtin.zeroCells zv.cells n).toList).toArray) ?_ ⟨hE, hM, fun p hp => ?_, .tup rfl fun j t v h => by simp at h⟩
      · have hst := run_storeCells_at E.P (g.φ q) (lo * ti.esz) e (Builtin.zeroCells zv.cells n).toList 0 cur w hh (by
          have q := hR0.1
          have hend : lo * ti.esz + n * ti.esz ≤ rows.length * ti.esz := by rw [← Nat.add_mul]; exact Nat.mul_le_mul_right _ hle
          rw [Array.length_toList, hzc]; omega) hone
        simp only [Nat.add_zero] at hst
        obtain ⟨m, rfl⟩ : ∃ m, n = m + 1 := ⟨n - 1, by omega⟩
        have hzvr : (zeroValue ti.e).run E.P w = .ok zv w := run_zeroValue hj hzv w
        simp only [execOp, ho, resolve, invoke, builtin, Builtin.clear_, hev, Sem.run_bind, Sem.run_pure, Result.andThen_ok, List.map_toArray, List.map_cons, List.map_nil, List.getElem?_toArray, List.getElem?_cons_zero, run_underlying hd, hzvr, hst]
        rfl
      · by_cases hpq : p = q
        · exact hpq ▸ c.lab q (by simp [hq])
        · exact c.lab p (by simpa [apU, upd_ne _ _ hpq] using hp)
end
end Go.Proofs.YtjhljcnjafbkfaaDoor.X
end
section
set_option linter.unusedVariables false
namespace Go.Proofs.YtjhljcnjafbkfaaDoor.X
open Go.RowKit
section
variable {E : Env} {B : Blk} {lim : Nat} {g : Gh} {w : World} {ob : ObF} {rt : RtF} {nx : Nat} {P : Program}
theorem eqA_ok : ∀ {n : Nat} {t : TypeId} {a b : AT} {r : Bool}, eqA P n t a b = some r → ∀ {D : Nat}, n ≤ D → ∀ {v u : Value}, RelA g w ob rt nx v a → RelA g w ob rt nx u b → (Op.equalIn D t v u).run P w = .ok r w
  | 0, t, a, b, r, h, D, hD, v, u, hv, hu => by simp [eqA] at h
  | n + 1, t, a, b, r, h, D, hD, v, u, hv, hu => by
    obtain ⟨D, rfl⟩ : ∃ q, D = q + 1 := ⟨D - 1, by omega⟩
    simp only [eqA] at h
    split at h
    · rename_i ht
      split at h
      · cases h
        have e1 := valOf_eq hv rfl
        have e2 := valOf_eq hu rfl
        subst e1; subst e2
        exact run_equalIn_bool' w D t _ _ ht
      · cases h
    · rename_i k ht
      split at h
      · split at h
        · rename_i hk
          subst hk
          cases h
          have e1 := valOf_eq hv rfl
          have e2 := valOf_eq hu rfl
          subst e1; subst e2
          exact run_equalIn_int w D t _ _ _ _ ht
        · cases h
      · cases h
    · rename_i ht
      split at h
      · cases h
        have e1 := valOf_eq hv rfl
        have e2 := valOf_eq hu rfl
        subst e1; subst e2
        exact run_equalIn_string w D t _ _ ht
      · cases h
    · rename_i fs ht
      split at h
      · rename_i cs ds
        split at h
        · rename_i hst
          cases hv with
          | of hv => cases hv with
            | @agg vs _ hv => cases hu with
              | of hu => cases hu with
                | @agg us _ hu =>
                  have hfs : P.fieldsOf t = fs := by simp only [Program.fieldsOf, ht]
                  rw [run_equalIn_struct w D t vs us (by rw [hfs]; exact ht) hst, hfs]
                  have key : ∀ (l : List Field) (r : Bool), eqFs P (eqA P n) cs ds l = some r → (Op.eqFields D vs us l).run P w = .ok r w := by
                    intro l
                    induction l with
                    | nil =>
                      intro r h
                      simp only [eqFs, Option.some.injEq] at h
                      subst h
                      rfl
                    | cons f l ih =>
                      intro r h
                      simp only [eqFs] at h
                      simp only [Op.eqFields]
                      split at h
                      · rename_i hn
                        rw [if_neg (by simpa using hn)]
                        exact ih r h
                      · rename_i hn
                        rw [if_pos hn]
                        split at h
                        · rename_i i d hi hd
                          split at h
                          · rename_i a b ha hb
                            simp only [Option.bind_eq_some_iff, Option.map_eq_some_iff] at h
                            obtain ⟨r1, h1, r2, h2, rfl⟩ := h
                            obtain ⟨va, hva, ra⟩ := run_part hd hi hv ha
                            obtain ⟨vb, hvb, rb⟩ := run_part hd hi hu hb
                            have h3 := eqA_ok h1 (D := D) (by omega) ra rb
                            simp only [Sem.run_bind, hva, hvb, h3, Result.andThen_ok]
                            cases r1 with
                            | false => simp
                            | true => simpa using ih r2 h2
                          · cases h
                        · cases h
                  exact key _ _ h
        · cases h
      · cases h
    · cases h
theorem run_eql_ptr_nil {tp te : TypeId} (a : Addr) (hp : P.underlying tp = some (.pointer te)) : (binOp .eql tp (.pointer (some a)) (.pointer none)).run P w = .ok (.bool false) w := by
  have h : ∀ d : Nat, (Op.equalIn (d + 1) tp (.pointer (some a)) (.pointer none)).run P w = .ok false w := fun d => by
    simp [Op.equalIn, run_underlying hp]
  simp only [binOp]
  simp [Op.equal, Op.maxDepth, h 9999]
theorem run_neq_ptr_nil {tp te : TypeId} (a : Addr) (hp : P.underlying tp = some (.pointer te)) : (binOp .neq tp (.pointer (some a)) (.pointer none)).run P w = .ok (.bool true) w := by
  have h : ∀ d : Nat, (Op.equalIn (d + 1) tp (.pointer (some a)) (.pointer none)).run P w = .ok false w := fun d => by
    simp [Op.equalIn, run_underlying hp]
  simp only [binOp]
  simp [Op.equal, Op.maxDepth, h 9999]
theorem run_neq_ptr_same {tp te : TypeId} {j : TypeInfo} (a : Addr) (hp : P.underlying tp = some (.pointer te)) (hte : P.info? te = some j) :
    (binOp .neq tp (.pointer (some a)) (.pointer (some a))).run P w = .ok (.bool false) w := by
  have h : ∀ d : Nat, (Op.equalIn (d + 1) tp (.pointer (some a)) (.pointer (some a))).run P w = .ok true w := fun d => by
    simp [Op.equalIn, run_underlying hp, sizeOf, typeInfo, hte, run_sameAddr_same]
  simp only [binOp]
  simp [Op.equal, Op.maxDepth, h 9999]
theorem ptrU_ok {op : BinOp} {t : TypeId} {r : Bool} {u : Upd} {x y : Operand} {v v' : Value} {a : Addr} (h : ptrU P op t r = some u) (hv : v = .pointer (some a)) (hv' : v' = if r then .pointer (some a) else .pointer none) :
    ∃ b, u = { val := .one (.p none (.sc (.bool b))) } ∧ (do eqGuard op t x y v v'; binOp op t v v').run P w = .ok (.bool b) w := by
  unfold ptrU at h
  split at h
  · rename_i e he
    split at h
    · rename_i hi
      obtain ⟨j, hj⟩ := Option.isSome_iff_exists.1 hi
      subst hv
      subst hv'
      cases r
      · split at h
        · cases h; exact ⟨_, rfl, by simp [eqGuard, run_eql_ptr_nil (w := w) a he]⟩
        · cases h; exact ⟨_, rfl, by simp [eqGuard, run_neq_ptr_nil (w := w) a he]⟩
        · cases h
      · split at h
        · cases h; exact ⟨_, rfl, by simp [eqGuard, run_eql_ptr_same w a he hj]⟩
        · cases h; exact ⟨_, rfl, by simp [eqGuard, run_neq_ptr_same (w := w) a he hj]⟩
        · cases h
    · cases h
  · cases h
theorem Cur.aggB {s : St} {a : Act} (c : Cur E B lim s g a w) {o : Oper} {op : BinOp} {t : TypeId} {x y : Operand} {q : TypeId} (ho : o.op = .binOp op t x y q) {u : Upd} (h : X.aggB E.P op t (evOpd E s.tm x) (evOpd E s.tm y) = some u) : OpOk E B lim s g a w o u := by
  unfold X.aggB at h
  have hx := c.opd x
  have hy := c.opd y
  split at h
  · rename_i cs ds e1 e2
    split at h
    · rename_i hg
      rw [e1] at hx
      rw [e2] at hy
      have hx' := hx
      have hy' := hy
      generalize hev : a.eval x = ev at hx hx'
      generalize hew : a.eval y = ew at hy hy'
      cases hx' with
      | of hx' => cases hx' with
        | @agg vs _ hx' => cases hy' with
          | of hy' => cases hy' with
            | @agg us _ hy' =>
              split at h
              · simp only [Option.map_eq_some_iff] at h
                obtain ⟨r, hr, rfl⟩ := h
                have h1 := eqA_ok hr (D := 10000) (by decide) hx hy
                refine c.pure (v := .bool r) ?_ (.of (.one (.p (.sc rfl))))
                simp only [execOp, ho, hev, hew, Sem.run_bind, run_eqGuard_agg w .eql t x y vs us hg, Result.andThen_ok, run_eql_struct, h1, Sem.run_pure]
              · simp only [Option.map_eq_some_iff] at h
                obtain ⟨r, hr, rfl⟩ := h
                have h1 := eqA_ok hr (D := 10000) (by decide) hx hy
                refine c.pure (v := .bool (!r)) ?_ (.of (.one (.p (.sc rfl))))
                simp only [execOp, ho, hev, hew, Sem.run_bind, run_eqGuard_agg w .neq t x y vs us hg, Result.andThen_ok, run_neq_struct, h1, Sem.run_pure]
              · cases h
    · cases h
  · rename_i p k p' k' e1 e2
    split at h
    · rename_i hpk
      obtain ⟨rfl, rfl⟩ := hpk
      rw [e1] at hx
      rw [e2] at hy
      have hx := one_rep hx
      have hy := one_rep hy
      generalize hev : a.eval x = ev at hx
      generalize hew : a.eval y = ew at hy
      cases hx with
      | pt hx => cases hy with
        | pt hy =>
          obtain ⟨b, rfl, hr⟩ := ptrU_ok (w := w) (x := x) (y := y) h (v := .pointer (some ⟨g.φ p, k, none⟩)) (v' := .pointer (some ⟨g.φ p, k, none⟩)) rfl rfl
          refine c.pure (v := .bool b) ?_ (.of (.one (.p (.sc rfl))))
          simp only [Sem.run_bind] at hr
          simp only [execOp, ho, hev, hew, Sem.run_bind, hr, Result.andThen_ok, Sem.run_pure]
    · cases h
  · rename_i p k w' e1 e2
    rw [e1] at hx
    rw [e2] at hy
    have hx := one_rep hx
    have hew := valOf_eq hy rfl
    generalize hev : a.eval x = ev at hx
    cases hx with
    | pt hx =>
      obtain ⟨b, rfl, hr⟩ := ptrU_ok (w := w) (x := x) (y := y) h (v := .pointer (some ⟨g.φ p, k, none⟩)) (v' := .pointer none) rfl rfl
      refine c.pure (v := .bool b) ?_ (.of (.one (.p (.sc rfl))))
      simp only [Sem.run_bind] at hr
      simp only [execOp, ho, hev, hew, Sem.run_bind, hr, Result.andThen_ok, Sem.run_pure]
  · cases h
end
end Go.Proofs.YtjhljcnjafbkfaaDoor.X
end
section
set_option linter.unusedVariables false
namespace Go.Proofs.YtjhljcnjafbkfaaDoor.X
open Go.RowKit
section
variable {E : Env} {B : Blk} {lim : Nat} {g : Gh} {w w' : World} {ob : ObF} {rt : RtF} {nx : Nat}
theorem mt_rep {v : Value} {m : Nat} {es : List MapEntry} {k : Nat} (hm : ob m = some (.mp es k)) (h : RelA g w ob rt nx v (.one (.mt m))) : v = .map (some (g.φ m)) := by
  have h := one_rep h
  cases h with
  | mt => rfl
theorem Cur.makeMap {s : St} {a : Act} (c : Cur E B lim s g a w) {o : Oper} {t : TypeId} (ho : o.op = .makeMap t none) {q : Nat} {rd : List Nat} (hq : s.ob q = none) (hql : q < lim) :
    OpOk E B lim s g a w o { val := .one (.mt q), ow := [(q, .mp [] 0)], rd := rd } := by
  have hE : Ext B lim g w s.ob s.rt s.nx { g with φ := upd g.φ q w.heap.size } (w.alloc (.map #[] 0)) (upd s.ob q (some (.mp [] 0))) s.rt s.nx := Ext.var c.mem hq _ _
  have hM := RelM.var c.mem c.lab hq (.map #[] 0) (.mp [] 0) (.mp (heap_new w _) fun i hi => absurd (c.mem.bnd _ i hi) (Nat.lt_irrefl _))
  refine .value (g' := { g with φ := upd g.φ q w.heap.size }) (v := .map (some w.heap.size)) (w' := w.alloc (.map #[] 0)) ?_ ⟨hE, hM, fun p hp => ?_, ?_⟩
  · simp [execOp, ho, Instr.makeMap]
  · by_cases hpq : p = q
    · exact hpq ▸ hql
    · exact c.lab p (by simpa [apU, upd_ne _ _ hpq] using hp)
  · have := RelC.mt (g := { g with φ := upd g.φ q w.heap.size }) (w := w.alloc (.map #[] 0)) (ob := upd s.ob q (some (.mp [] 0))) (rt := s.rt) (nx := s.nx) (o := q) (es := []) (k := 0) (upd_same _ _ _)
    simp only [upd_same] at this
    exact .of (.one this)
theorem Cur.lookup {s : St} {a : Act} (c : Cur E B lim s g a w) {o : Oper} {t : TypeId} {x i : Operand} {ok : Bool} (ho : o.op = .lookup t x i ok) {m : Nat} {es : List MapEntry} {n : Nat} {k : Value}
    (hx : evOpd E s.tm x = .one (.mt m)) (hm : s.ob m = some (.mp es n)) (hk : valOf (evOpd E s.tm i) = some k) {b : AT} {rd : List Nat} (h : mapGet E t es k ok = some b) :
    OpOk E B lim s g a w o { val := b, rd := rd } := by
  have h1 := c.opd x
  rw [hx] at h1
  have hv := mt_rep hm h1
  have hi := valOf_eq (c.opd i) hk
  obtain ⟨q, _⟩ := c.mem.obj m _ hm
  cases q with
  | mp hh hI =>
    unfold mapGet at h
    split at h
    · rename_i kt et ht
      split at h
      · rename_i u r hc hf
        split at h
        · rename_i y hy
          have hc := tryP_run hc (w := w)
          have hf := tryP_run hf (w := w)
          have he : es.toArray.isEmpty = es.isEmpty := by cases es <;> rfl
          obtain ⟨z, hrun, hzr⟩ : ∃ z, (Instr.lookup t (a.eval x) (a.eval i) ok).run E.P w = .ok (if ok then .tuple #[z, .bool r.isSome] else z) w ∧ RelA g w s.ob s.rt s.nx z (mapAt E et r) := by
            cases r with
            | some p =>
              obtain ⟨j, v⟩ := p
              refine ⟨v, ?_, ?_⟩
              · simp [Instr.lookup, hv, hi, Result.andThen, run_underlying ht, MapKept.run_getObj_map hh, hc, hf]
              simp only [mapAt] at hy ⊢
              cases ha : atOfV v with
              | some x => exact atOfV_rep ha
              | none => exact .of .no
            | none =>
              simp only [mapAt] at hy ⊢
              cases hT : tryP E.P (zeroValue et) with
              | none => rw [hT] at hy; simp [cvA] at hy
              | some v =>
                have hz := tryP_run hT (w := w)
                refine ⟨v, ?_, ?_⟩
                · simp [Instr.lookup, hv, hi, Result.andThen, run_underlying ht, MapKept.run_getObj_map hh, hc, hf, hz]
                simp only [Option.bind_some]
                cases ha : atOfV v with
                | some x => exact atOfV_rep ha
                | none => exact .of .no
          cases h
          cases ok with
          | false => exact c.pure (v := z) (by simp [execOp, ho, hrun]) hzr
          | true =>
            refine c.pure (v := .tuple #[z, .bool r.isSome]) (by simp [execOp, ho, hrun]) (.tup (by simp) fun j t u ht hu => ?_)
            cases j with
            | zero =>
              simp at ht hu
              subst ht
              subst hu
              exact cvA_rep hzr hy
            | succ j =>
              cases j with
              | zero =>
                simp at ht hu
                subst ht
                subst hu
                exact .one (.p (.sc rfl))
              | succ j => simp at ht
        · cases h
      · cases h
    · cases h
theorem Cur.mapUpdate {s : St} {a : Act} (c : Cur E B lim s g a w) {o : Oper} {t : TypeId} {x i y : Operand} (ho : o.op = .mapUpdate t x i y) {m : Nat} {es : List MapEntry} {n : Nat} {k v : Value}
    (hx : evOpd E s.tm x = .one (.mt m)) (hm : s.ob m = some (.mp es n)) (hk : valOf (evOpd E s.tm i) = some k) (hy : valOf (evOpd E s.tm y) = some v) {q : Obj} {rd : List Nat} (h : mapPut E.P t es n k v = some q) :
    OpOk E B lim s g a w o { val := .no, ow := [(m, q)], rd := rd } := by
  have h1 := c.opd x
  rw [hx] at h1
  have hv := mt_rep hm h1
  have hi := valOf_eq (c.opd i) hk
  have hyv := valOf_eq (c.opd y) hy
  obtain ⟨q', _⟩ := c.mem.obj m _ hm
  cases q' with
  | mp hh hI =>
    obtain ⟨es', n', rfl, hrun⟩ : ∃ es' n', q = .mp es' n' ∧ (Instr.mapUpdate t (a.eval x) (a.eval i) (a.eval y)).run E.P w = .ok () { w with heap := w.heap.setIfInBounds (g.φ m) (.map es'.toArray n') } := by
      unfold mapPut at h
      split at h
      · rename_i kt et ht
        split at h
        · rename_i u j val hc hf
          split at h
          · rename_i hs
            cases h
            refine ⟨_, _, rfl, ?_⟩
            have hc := tryP_run hc (w := w)
            have hf := tryP_run hf (w := w)
            have hs' : Instr.sameBits 10000 (((es.toArray[j]?).map (·.key)).getD k) k = true := by simpa using hs
            simp [Instr.mapUpdate, hv, hi, hyv, Result.andThen, run_underlying ht, MapKept.run_getObj_map hh, hc, hf, Instr.keyThatStays, hs, MapKept.run_setObj_map _ hh]
          · cases h
        · rename_i u hc hf
          cases h
          refine ⟨_, _, rfl, ?_⟩
          have hc := tryP_run hc (w := w)
          have hf := tryP_run hf (w := w)
          simp [Instr.mapUpdate, hv, hi, hyv, Result.andThen, run_underlying ht, MapKept.run_getObj_map hh, hc, hf, MapKept.run_setObj_map _ hh]
        · cases h
      · cases h
    have hw : PutB (g.φ m) w { w with heap := w.heap.setIfInBounds (g.φ m) (.map es'.toArray n') } := ⟨rfl, rfl, rfl, by simp, (MapKept.heap_set hh).2⟩
    have hE : Ext B lim g w s.ob s.rt s.nx g _ (upd s.ob m (some (.mp es' n'))) s.rt s.nx := Ext.put c.mem hm trivial trivial hw hI
    have hM := RelM.put c.mem c.lab hm (y := .mp es' n') trivial trivial hw hI (.mp (MapKept.heap_set hh).1 hI)
    refine .skip (g' := g) (by simp [execOp, ho, hrun]) ⟨hE, hM, ?_, .of .no⟩
    intro p hp
    by_cases hpm : p = m
    · exact hpm ▸ c.lab m (by simp [hm])
    · exact c.lab p (by simpa [apU, upd_ne _ _ hpm] using hp)
end
end Go.Proofs.YtjhljcnjafbkfaaDoor.X
end
section
set_option linter.unusedVariables false
namespace Go.Proofs.YtjhljcnjafbkfaaDoor.X
open Go.RowKit
section
variable {E : Env} {B : Blk} {base : Nat} {g g' : Gh} {w w' : World}
theorem arr1 {α : Type} {x : Array α} {a : α} (h : x.toList = [a]) : x = #[a] := Array.ext' (by simpa using h)
theorem arr2 {α : Type} {x : Array α} {a b : α} (h : x.toList = [a, b]) : x = #[a, b] := Array.ext' (by simpa using h)
theorem lim_lt {d base : Nat} (h : d < 4096) : base + d < base + 16384 := by omega
theorem lim_lt4 {base : Nat} {o : Option Nat} (h : ∀ d, o = some d → d < 4096) : base + o.getD 4095 + 12288 < base + 16384 := by
  cases o with
  | none => show base + 4095 + 12288 < base + 16384; omega
  | some d =>
    have := h d rfl
    show base + d + 12288 < base + 16384
    omega
theorem evCall_ok {s : St} {a : Act} {gen : Nat → Bool} {call : CallF} (hcall : CallOk E call) (c : Cur E B (base + 16384) s g a w) {o : Oper} {u : Upd} (hd : ∀ d, o.dst = some d → d < 4096) {cl : Call} (ho : o.op = .call cl)
    (h : evCall E gen call base (evOpd E s.tm) s.ob s.rt s.nx o.dst cl = some u) : OpOk E B (base + 16384) s g a w o u := by
  obtain ⟨callee, args, ts⟩ := cl
  unfold evCall at h
  simp only at h
  split at h
  · rename_i x t ha ht
    rw [arr1 ha, arr1 ht] at ho
    split at h
    · rename_i p z l hx hk
      simp only [Option.map_eq_some_iff] at hk
      obtain ⟨ti, hT, hk⟩ := hk
      cases h
      exact c.lenSl ho hT hk hx
    · rename_i q lo n hx hk
      simp only [Option.map_eq_some_iff] at hk
      obtain ⟨ti, hT, hk⟩ := hk
      cases h
      exact c.lenVw ho hT hk hx
    · cases h
  · rename_i x y t t' ha ht
    rw [arr2 ha, arr2 ht] at ho
    split at h
    · rename_i ti hT
      split at h
      · rename_i hc
        obtain ⟨hk, rfl⟩ := hc
        split at h
        · rename_i q lo n cy hx hy
          split at h
          · rename_i z' rows z l hq hl
            split at h
            · rename_i hc2
              obtain ⟨rfl, rfl, hle⟩ := hc2
              cases h
              exact c.copy ho hT hk hx hq hy hl hle
            · cases h
          · cases h
        · cases h
      · cases h
    · cases h
  · rename_i x t ha ht
    rw [arr1 ha, arr1 ht] at ho
    split at h
    · rename_i ti q lo n hT hx
      split at h
      · rename_i z' rows te hq hTe
        split at h
        · rename_i z hz
          split at h
          · rename_i hc2
            obtain ⟨hk, rfl, hzl, hle⟩ := hc2
            cases h
            exact c.clear ho hT hk hTe hx hq hz hzl hle
          · cases h
        · cases h
      · cases h
    · cases h
  · rename_i x y t t' ha ht
    rw [arr2 ha, arr2 ht] at ho
    split at h
    · rename_i ti hT
      split at h
      · rename_i hc
        obtain ⟨hk, rfl⟩ := hc
        split at h
        · split at h
          · rename_i z cy d hx hy hdst
            split at h
            · rename_i z' l' hl hq
              split at h
              · rename_i hc2
                obtain ⟨rfl, hz, hte, h0, hlen, hby⟩ := hc2
                subst hz
                obtain ⟨te, hTe⟩ := Option.isSome_iff_exists.1 hte
                cases h
                exact c.appendNew ho hT hk hTe hx hy hl h0 hlen hby hq (lim_lt (hd d hdst))
              · cases h
            · cases h
          · cases h
        · split at h
          · rename_i n z l p z' l' d hx hy hdst
            split at h
            · rename_i hc2
              obtain ⟨rfl, hz, hte, h0, hn, hlen, hby⟩ := hc2
              subst hz
              obtain ⟨te, hTe⟩ := Option.isSome_iff_exists.1 hte
              cases h
              exact c.append ho hT hk hTe hx hy h0 hn hlen hby
            · cases h
          · cases h
      · cases h
    · cases h
  · rename_i f
    have hlast := lim_lt4 (base := base) hd
    split at h
    · rename_i hlen
      split at h
      · rename_i p k cs hf
        have hfr := c.opd f
        rw [hf] at hfr
        have hfr := p_rep (one_rep hfr)
        generalize hfv : a.eval f = fv at hfr
        cases hfr with
        | @fn _ caps _ hcl hcr =>
          have hcs : RelAs g w s.ob s.rt s.nx caps.toList (cs.map fun x => .one (.p none x)) := ⟨by simpa using hcl, fun i x v hx hv => by
            simp only [List.getElem?_map, Option.map_eq_some_iff] at hx
            obtain ⟨y, hy, rfl⟩ := hx
            exact .of (.one (.p (hcr i y v hy (by simpa using hv))))⟩
          split at h
          · exact c.callMv hcall ho hfv hlen hcs hlast h
          · split at h
            · rename_i xs hxs
              simp only [Option.map_eq_some_iff] at h
              obtain ⟨rs, hrs, rfl⟩ := h
              exact c.callPure hcall ho hf hlen hxs hrs
            · split at h
              · rename_i xs hxs
                exact c.callFlat hcall ho hfv hlen hcs hxs h
              · cases h
      · rename_i k cs hf
        have hfr := c.opd f
        rw [hf] at hfr
        have hfr := one_rep hfr
        generalize hfv : a.eval f = fv at hfr
        cases hfr with
        | @cl _ caps _ hcl hcr =>
          have hcs : RelAs g w s.ob s.rt s.nx caps.toList (cs.map .one) := ⟨by simpa using hcl, fun i x v hx hv => by
            simp only [List.getElem?_map, Option.map_eq_some_iff] at hx
            obtain ⟨y, hy, rfl⟩ := hx
            exact .of (.one (hcr i y v hy (by simpa using hv)))⟩
          split at h
          · exact c.callMv hcall ho hfv hlen hcs hlast h
          · split at h
            · rename_i xs hxs
              exact c.callFlat hcall ho hfv hlen hcs hxs h
            · cases h
      · cases h
    · cases h
  · cases h
theorem evOp_ok {s : St} {a : Act} {gen : Nat → Bool} {call : CallF} (hcall : CallOk E call) (c : Cur E B (base + 16384) s g a w) {o : Oper} {u : Upd} (hd : ∀ d, o.dst = some d → d < 4096)
    (h : evOp E gen call base (evOpd E s.tm) s.ob s.rt s.nx o = some u) : OpOk E B (base + 16384) s g a w o u := by
  unfold evOp at h
  split at h
  · rename_i x hop; cases h; exact c.move (.inl hop)
  · rename_i x hop; cases h; exact c.assign hop
  · rename_i q x y hop
    split at h
    · rename_i p t hq; cases h; exact c.pick hop hq
    · cases h
  · rename_i t hop
    split at h
    · rename_i ti d hT hdst
      split at h
      · rename_i hob; cases h; have hd' := hd d hdst; exact c.alloc hop hT hob (lim_lt hd')
      · cases h
    · cases h
  · rename_i t x hop
    split at h
    · rename_i cs d hx hdst
      split at h
      · rename_i hob; cases h; have hd' := hd d hdst; exact c.box hop hx hob (lim_lt hd')
      · cases h
    · cases h
  · rename_i t parts hop
    split at h
    · rename_i ti hT
      split at h
      · rename_i hk
        simp only [Option.map_eq_some_iff] at h
        obtain ⟨cs, hcs, rfl⟩ := h
        exact c.buildS hop hT hk hcs
      · split at h
        · rename_i hk
          simp only [Option.map_eq_some_iff] at h
          obtain ⟨cs, hcs, rfl⟩ := h
          exact c.buildA hop hT hk hcs
        · cases h
    · cases h
  · rename_i t n parts hop
    split at h
    · rename_i ti hT
      split at h
      · rename_i hk
        obtain ⟨hk, h0, hn, he⟩ := hk
        split at h
        · rename_i te hTe
          split at h
          · rename_i z hz
            split at h
            · rename_i hzl
              simp only [Option.map_eq_some_iff] at h
              obtain ⟨rows, hrows, rfl⟩ := h
              exact c.buildSlice hop hT hk h0 hn he hTe hz hzl hrows
            · cases h
          · cases h
        · cases h
      · cases h
    · cases h
  · rename_i t x hop
    split at h
    · rename_i ti hT
      exact c.load hop hT h
    · cases h
  · rename_i t x y hop
    split at h
    · rename_i ti p off vs hT hx hy
      split at h
      · rename_i cs hp
        split at h
        · rename_i hc
          cases h
          exact c.storeVar hop hT hx hy hp hc.1 hc.2
        · cases h
      · cases h
    · rename_i ti p r off vs hT hx hy
      split at h
      · rename_i z rows xs hp hxs
        split at h
        · rename_i row hr
          split at h
          · rename_i hc
            cases h
            exact c.storeArr hop hT hx hy hp hxs hr hc.1 hc.2.1 hc.2.2
          · cases h
        · cases h
      · cases h
    · cases h
  · rename_i t x f hop
    split at h
    · rename_i ti hT
      split at h
      · rename_i hk
        split at h
        · rename_i off sz ag ty hf
          split at h
          · cases h
          · rename_i hz
            simp only [Option.map_eq_some_iff] at h
            obtain ⟨q, hq, rfl⟩ := h
            exact c.fieldAddr hop hT hk hf hz hq
        · cases h
      · cases h
    · cases h
  · rename_i t x f hop
    split at h
    · rename_i ti cs hT hx
      split at h
      · rename_i hk
        split at h
        · rename_i off sz ag ty hf
          simp only [Option.map_eq_some_iff] at h
          obtain ⟨q, hq, rfl⟩ := h
          exact c.field hop hT hk hf hx hq
        · cases h
      · cases h
    · cases h
  · rename_i t x i hop
    split at h
    · rename_i ti n hT hi
      split at h
      · rename_i hk
        split at h
        · rename_i hc
          simp only [Option.map_eq_some_iff] at h
          obtain ⟨q, hq, rfl⟩ := h
          exact c.indexArr hop hT hk hi hc.1 hc.2 hq
        · cases h
      · split at h
        · rename_i hk
          split at h
          · rename_i p z l hx
            split at h
            · rename_i hc
              obtain ⟨rfl, h0⟩ := hc
              split at h
              · rename_i r hr
                cases h
                exact c.indexSl hop hT hk hi h0 hx hr
              · cases h
            · cases h
          · rename_i q lo m hx
            split at h
            · rename_i fz z rows hq
              split at h
              · rename_i hc
                obtain ⟨rfl, h0, hm⟩ := hc
                cases h
                exact c.indexVw hop hT hk hi h0 hx hm hq
              · cases h
            · cases h
          · cases h
        · cases h
    · cases h
  · rename_i t x i hop
    split at h
    · rename_i ti cs n hT hx hi
      split at h
      · rename_i hc
        simp only [Option.map_eq_some_iff] at h
        obtain ⟨q, hq, rfl⟩ := h
        exact c.indexAgg hop hT hc.1 hi hc.2.1 hc.2.2 hx hq
      · cases h
    · exact c.gen (fun cs b e => by rw [hop] at e; cases e) h
  · rename_i t x lo hi mx hop
    split at h
    · rename_i ti p z l lo' hi' mx' hT hx h1 h2 h3
      simp only at h
      split at h
      · rename_i hc
        obtain ⟨hk, rfl, q1, q2, q3, q4, q5⟩ := hc
        cases h
        exact c.sliceSl hop hT hk hx h1 h2 h3 q1 q2 q3 q4 q5
      · cases h
    · rename_i ti q k n lo' hi' hT hx h1 h2 h3
      simp only at h
      split at h
      · rename_i fz z rows hq
        split at h
        · rename_i hc
          obtain ⟨hk, rfl, q1, q2, q3⟩ := hc
          cases h
          have hmx : mx = none := by
            cases mx with
            | none => rfl
            | some m => simp [optIdx] at h3
          subst hmx
          exact c.sliceVw hop hT hk hx hq h1 h2 q1 q2 q3
        · cases h
      · cases h
    · rename_i ti p cs hT hx h1 h2 h3
      split at h
      · rename_i hc
        obtain ⟨hk, hz, hl, hm⟩ := hc
        cases h
        obtain rfl := opt_none h1
        obtain rfl := opt_none h2
        obtain rfl := opt_none h3
        exact c.sliceRef hop hT hk hz hl hm hx
      · cases h
    · exact c.gen (fun cs b e => by rw [hop] at e; cases e) h
  · rename_i t x y hop
    split at h
    · rename_i ti n m d hT hx hy hdst
      split at h
      · rename_i te hTe
        split at h
        · rename_i z hz
          split at h
          · rename_i hc
            obtain ⟨hk, h0, hzl, q1, q2, q3, q4⟩ := hc
            split at h
            · rename_i hzero
              cases h
              exact c.makeRight hop hT hk hTe hzero hy (by omega) q3 q4
            · split at h
              · rename_i hnm
                subst hnm
                split at h
                · rename_i hob
                  cases h
                  have hd' := hd d hdst
                  exact c.makeVw hop hT hk hTe hx hy q1 q3 q4 h0 hz hzl hob (lim_lt hd')
                · cases h
              · cases h
          · cases h
        · cases h
      · cases h
    · cases h
  · rename_i t r hop
    split at h
    · rename_i d hdst
      split at h
      · rename_i hob; cases h; have hd' := hd d hdst; exact c.makeMap hop hob (lim_lt hd')
      · cases h
    · cases h
  · rename_i t x i ok hop
    split at h
    · rename_i m k hx hk
      split at h
      · rename_i es n hm
        simp only [Option.map_eq_some_iff] at h
        obtain ⟨b, hb, rfl⟩ := h
        exact c.lookup hop hx hm hk hb
      · cases h
    · cases h
  · rename_i t x i y hop
    split at h
    · rename_i m k v hx hk hy
      split at h
      · rename_i es n hm
        simp only [Option.map_eq_some_iff] at h
        obtain ⟨q, hq, rfl⟩ := h
        exact c.mapUpdate hop hx hm hk hy hq
      · cases h
    · cases h
  · rename_i x hop
    split at h
    · rename_i q k hx; cases h; exact c.nilCheck hop hx (.inl ⟨_, _, rfl⟩)
    · rename_i q r k hx; cases h; exact c.nilCheck hop hx (.inr (.inl ⟨_, _, _, rfl⟩))
    · rename_i p cs hx; cases h; exact c.nilCheck hop hx (.inr (.inr (.inl ⟨_, _, rfl⟩)))
    · rename_i p f cs hx; cases h; exact c.nilCheck hop hx (.inr (.inr (.inr (.inl ⟨_, _, _, rfl⟩))))
    · rename_i f cs hx; cases h; exact c.nilCheck hop hx (.inr (.inr (.inr (.inr ⟨_, _, rfl⟩))))
    · exact c.gen (fun cs b e => by rw [hop] at e; cases e) h
  · rename_i x i hop
    split at h
    · rename_i ts hx
      simp only [Option.map_eq_some_iff] at h
      obtain ⟨r, hr, rfl⟩ := h
      exact c.extract hop hx hr
    · cases h
  · rename_i f first caps hop
    split at h
    · rename_i h0
      split at h
      · rename_i cs hcs
        split at h
        · rename_i hall
          simp only at h
          have hm := c.makeFunc hop h0 hcs hall
          split at h
          · rename_i ps hps; cases h; exact hm.1 ps hps
          · cases h; exact hm.2
        · cases h
      · cases h
    · cases h
  · rename_i cl hop
    split at h
    · split at h
      · rename_i u' hu
        cases h
        exact evCall_ok hcall c hd hop hu
      · exact c.gen (fun cs b e => by rw [hop] at e; cases e) h
    · exact evCall_ok hcall c hd hop h
    · exact evCall_ok hcall c hd hop h
    · exact evCall_ok hcall c hd hop h
    · split at h
      · exact evCall_ok hcall c hd hop h
      · exact c.gen (fun cs b e => by rw [hop] at e; cases e) h
    · cases h
  · rename_i hop
    split at h
    · rename_i u' hu
      cases h
      exact c.aggB hop hu
    · exact c.gen (fun cs b e => by rw [hop] at e; cases e) h
  all_goals first | (cases h; done) | (rename_i hop; exact c.gen (fun cs b e => by rw [hop] at e; cases e) h)
end
end Go.Proofs.YtjhljcnjafbkfaaDoor.X
end
section
set_option linter.unusedVariables false
namespace Go.Proofs.YtjhljcnjafbkfaaDoor.X
open Go.RowKit
section
variable {E : Env} {B : Blk} {base lim nt : Nat} {g g' : Gh} {w w' : World}
structure CurN (E : Env) (B : Blk) (lim nt : Nat) (s : St) (g : Gh) (a : Act) (w : World) : Prop where
  cur : Cur E B lim s g a w
  size : a.tmps.size = nt
  defers : a.defers = []
theorem eval_put (a : Act) (d : Nat) (v : Value) (t : Nat) (h : d < a.tmps.size) : (a.put (some d) v).eval (.tmp t) = if t = d then v else a.eval (.tmp t) := by
  simp only [Act.put, Act.eval, Array.getD_eq_getD_getElem?, Array.getElem?_setIfInBounds]
  by_cases e : d = t
  · subst e
    simp [h]
  · simp [e, Ne.symm e]
theorem After.next {s : St} {a : Act} {u : Upd} {v : Value} {dst : Option Nat} (c : CurN E B lim nt s g a w) (hd : ∀ d, dst = some d → d < nt) (k : After E B lim s g w u v g' w') :
    CurN E B lim nt (apU dst u s) g' (a.put dst v) w' := by
  have tm : ∀ t, RelA g' w' (apU none u s).ob (apU none u s).rt (apU none u s).nx (a.eval (.tmp t)) (s.tm t) := fun t => (c.cur.tm t).ext k.ext c.cur.lab
  cases dst with
  | none => exact ⟨⟨k.mem, k.lab, tm⟩, c.size, c.defers⟩
  | some d =>
    have hlt : d < a.tmps.size := by rw [c.size]; exact hd d rfl
    refine ⟨⟨k.mem, k.lab, fun t => ?_⟩, by simp [Act.put, c.size], by simp [Act.put, c.defers]⟩
    rw [eval_put a d v t hlt]
    by_cases e : t = d
    · subst e
      simp only [apU, upd_same, if_true]
      exact k.val
    · simp only [apU, upd_ne _ _ e, if_neg e]
      exact tm t
theorem guard_ok {s : St} {a : Act} {ops : Array Oper} (c : Cur E B lim s g a w) {gd : Option (Nat × Bool)} {b : Bool} (h : evGuard ops s.tm gd = some b) {o : Oper} (ho : o.guard = gd) :
    Region.wanted o (yielded ops a.tmps) = b := by
  unfold evGuard at h
  unfold Region.wanted
  rw [ho]
  split at h
  · cases h; rfl
  · rename_i j want
    split at h
    · rename_i t ht
      split at h
      · rename_i p b' hb
        cases h
        have hv := valOf_eq (c.tm t) (v' := .bool b') (by rw [hb]; rfl)
        have hy : yielded ops a.tmps j = some b' := by
          unfold yielded
          rw [ht]
          simp only [Act.eval, Array.getD_eq_getD_getElem?] at hv
          cases hx : a.tmps[t]? with
          | none => rw [hx] at hv; simp [undef] at hv
          | some x => rw [hx] at hv; simp at hv; subst hv; simp [hx]
        simp [hy]
      · rename_i ts hb
        cases h
        have hr := c.tm t
        rw [hb] at hr
        have hy : yielded ops a.tmps j = none := by
          generalize hv : a.eval (.tmp t) = v at hr
          cases hr with
          | of hr => cases hr
          | @tup vs _ hl hv' =>
            unfold yielded
            rw [ht]
            simp only [Act.eval, Array.getD_eq_getD_getElem?] at hv
            cases hx : a.tmps[t]? with
            | none => simp [hx]
            | some x => rw [hx] at hv; simp at hv; subst hv; simp [hx]
        simp [hy]
      · cases h
    · cases h
def Goes (E : Env) (B : Blk) (lim nt : Nat) (s : St) (g : Gh) (w : World) (s' : St) (K : Act → World → Prop) : Prop :=
  ∀ a' w' g', CurN E B lim nt s' g' a' w' → Ext B lim g w s.ob s.rt s.nx g' w' s'.ob s'.rt s'.nx → K a' w'
theorem row_ok {gen : Nat → Bool} {call : CallF} (hcall : CallOk E call) (hnt : nt ≤ 4096) {s : St} {a : Act} (c : CurN E B (base + 16384) nt s g a w) {ops : Array Oper} {o : Oper} {u : Upd}
    (h : evRow E gen call base nt ops s o = some u) {K : Act → World → Prop} {Q : Exit → Act → World → Prop} (hK : Goes E B (base + 16384) nt s g w (apU o.dst u s) K) :
    if Region.wanted o (yielded ops a.tmps) then o.wp E.P a w K Q else K (a.put o.dst undef) w := by
  unfold evRow at h
  split at h
  · rename_i hdst
    have hd : ∀ d, o.dst = some d → d < nt := fun d e => by rw [e] at hdst; simpa [okDst] using hdst
    split at h
    · rename_i hg
      rw [guard_ok c.cur hg rfl, if_pos rfl]
      refine evOp_ok hcall c.cur (fun d e => Nat.lt_of_lt_of_le (hd d e) hnt) h K Q fun v g' w' k => hK _ _ g' (k.next c hd) ?_
      exact k.ext
    · rename_i hg
      rw [guard_ok c.cur hg rfl, if_neg (by simp)]
      cases h
      have k : After E B (base + 16384) s g w { val := .tup [] } undef g w := ⟨Ext.refl .., c.cur.mem, c.cur.lab, .tup rfl fun j t v ht => by simp at ht⟩
      exact hK _ _ g (k.next c hd) k.ext
    · cases h
  · cases h
theorem rows_ok {gen : Nat → Bool} {call : CallF} (hcall : CallOk E call) (hnt : nt ≤ 4096) {ops : Array Oper} {Q : Exit → Act → World → Prop} : ∀ {l : List Oper} {s s' : St} {us : List Upd} {a : Act} {w : World} {g : Gh},
    CurN E B (base + 16384) nt s g a w → evRows E gen call base nt ops l s = some (s', us) → Goes E B (base + 16384) nt s g w s' (Q .normal) → wpList E.P ops Q l a w
  | [], s, s', us, a, w, g, c, h, hQ => by
    simp only [evRows, Option.some.injEq, Prod.mk.injEq] at h
    obtain ⟨rfl, rfl⟩ := h
    exact wpList_nil (hQ _ _ g c (Ext.refl ..))
  | o :: r, s, s', us, a, w, g, c, h, hQ => by
    simp only [evRows] at h
    split at h
    · rename_i u hu
      split at h
      · rename_i s2 us2 hr
        cases h
        refine wpList_step fun K hK => row_ok hcall hnt c hu fun a' w' g' c' e' => hK _ _ (rows_ok hcall hnt c' hr fun a2 w2 g2 c2 e2 => hQ _ _ g2 c2 (e'.trans e2))
      · cases h
    · cases h
end
end Go.Proofs.YtjhljcnjafbkfaaDoor.X
end
section
set_option linter.unusedVariables false
namespace Go.Proofs.YtjhljcnjafbkfaaDoor.X
open Go.RowKit
section
variable {E : Env} {ob ob' : ObF}
theorem pvC_local {c : CV} (h : ∀ o ∈ seenC c, ob o = ob' o) : pvC ob c = pvC ob' c := by
  cases c with
  | vw o lo n => simp only [pvC, h o (by simp [seenC])]
  | _ => rfl
theorem pvL_local : ∀ {cs : List CV}, (∀ o ∈ cs.flatMap seenC, ob o = ob' o) → pvL ob cs = pvL ob' cs
  | [], _ => rfl
  | c :: cs, h => by
    simp only [pvL]
    rw [pvC_local fun o ho => h o (by simp only [List.flatMap_cons, List.mem_append]; exact .inl ho),
      pvL_local fun o ho => h o (by simp only [List.flatMap_cons, List.mem_append]; exact .inr ho)]
theorem argOf_local {x : AT} (h : ∀ o ∈ seenT x, ob o = ob' o) : argOf ob x = argOf ob' x := by
  cases x with
  | one c => simp only [argOf, pvC_local h]
  | agg cs => simp only [argOf, pvL_local h]
  | _ => rfl
theorem argsOf_local : ∀ {xs : List AT}, (∀ o ∈ xs.flatMap seenT, ob o = ob' o) → argsOf ob xs = argsOf ob' xs
  | [], _ => rfl
  | c :: cs, h => by
    simp only [argsOf]
    rw [argOf_local fun o ho => h o (by simp only [List.flatMap_cons, List.mem_append]; exact .inl ho),
      argsOf_local fun o ho => h o (by simp only [List.flatMap_cons, List.mem_append]; exact .inr ho)]
theorem icy_local : ∀ {os : List Nat}, (∀ o ∈ os, ob o = ob' o) → icy ob os = icy ob' os
  | [], _ => rfl
  | o :: os, h => by
    have := icy_local (os := os) fun p hp => h p (List.mem_cons_of_mem _ hp)
    unfold icy at this ⊢
    rw [List.filterMap_cons, List.filterMap_cons, h o (List.mem_cons_self ..), this]
theorem opT_congr {ρ ρ' : Operand → AT} {x : Operand} (h : ρ x = ρ' x) (t : TypeId) : opT E ρ t x = opT E ρ' t x := by simp only [opT, h]
theorem fillS_congr {ρ ρ' : Operand → AT} {fs : List (Nat × Nat × Bool × TypeId)} : ∀ {parts : List (Nat × Operand)} {cs : List CV}, (∀ p ∈ parts, ρ p.2 = ρ' p.2) → fillS fs E ρ cs parts = fillS fs E ρ' cs parts
  | [], _, _ => rfl
  | (i, x) :: r, cs, h => by
    have ih := fun cs => fillS_congr (cs := cs) (parts := r) (fs := fs) fun p hp => h p (List.mem_cons_of_mem _ hp)
    have hx : ρ x = ρ' x := h (i, x) (List.mem_cons_self ..)
    simp only [fillS, opT, hx, ih]
theorem fillA_congr {ρ ρ' : Operand → AT} {ti : TI} : ∀ {parts : List (Nat × Operand)} {cs : List CV}, (∀ p ∈ parts, ρ p.2 = ρ' p.2) → fillA ti E ρ cs parts = fillA ti E ρ' cs parts
  | [], _, _ => rfl
  | (i, x) :: r, cs, h => by
    have ih := fun cs => fillA_congr (cs := cs) (parts := r) (ti := ti) fun p hp => h p (List.mem_cons_of_mem _ hp)
    have hx : ρ x = ρ' x := h (i, x) (List.mem_cons_self ..)
    simp only [fillA, opT, hx, ih]
theorem fillR_congr {ρ ρ' : Operand → AT} {ti : TI} : ∀ {parts : List (Nat × Operand)} {cs : List (List PV)}, (∀ p ∈ parts, ρ p.2 = ρ' p.2) → fillR ti E ob ρ cs parts = fillR ti E ob ρ' cs parts
  | [], _, _ => rfl
  | (i, x) :: r, cs, h => by
    have ih := fun cs => fillR_congr (cs := cs) (parts := r) (ti := ti) fun p hp => h p (List.mem_cons_of_mem _ hp)
    have hx : ρ x = ρ' x := h (i, x) (List.mem_cons_self ..)
    simp only [fillR, opT, hx, ih]
theorem optIdx_congr {ρ ρ' : Operand → AT} {x : Option Operand} (h : ∀ y, x = some y → ρ y = ρ' y) : optIdx ρ x = optIdx ρ' x := by
  cases x with
  | none => rfl
  | some y => simp only [optIdx, h y rfl]
theorem evGen_congr {ρ ρ' : Operand → AT} {o : Oper} (hs : ∀ cs b, o.op ≠ .select cs b) (h : ∀ x ∈ o.op.operands, ρ x = ρ' x) : evGen E ρ o = evGen E ρ' o := by
  unfold evGen
  have e1 : (o.op.operands.toList.all fun x => (valOf (ρ x)).isSome) = (o.op.operands.toList.all fun x => (valOf (ρ' x)).isSome) := by
    rw [Bool.eq_iff_iff, List.all_eq_true, List.all_eq_true]
    constructor <;> intro k x hx
    · rw [← h x (by simpa using hx)]; exact k x hx
    · rw [h x (by simpa using hx)]; exact k x hx
  have e2 : execOp (fun x => (valOf (ρ x)).getD undef) o = execOp (fun x => (valOf (ρ' x)).getD undef) o := execOp_congr o hs fun x hx => by simp only [h x hx]
  have e3 : nilGen E ρ o = nilGen E ρ' o := by
    unfold nilGen
    split
    · rename_i op t x y u ho
      rw [h x (by rw [ho]; simp [Op.operands])]
    · rfl
  rw [e1, e2, e3]
theorem evCall_congr {ρ ρ' : Operand → AT} {gen : Nat → Bool} {call : CallF} {base : Nat} {rt : RtF} {nx : Nat} {dst : Option Nat} {c : Call} (h : ∀ x ∈ c.operands, ρ x = ρ' x) :
    evCall E gen call base ρ ob rt nx dst c = evCall E gen call base ρ' ob rt nx dst c := by
  obtain ⟨callee, args, ts⟩ := c
  simp only [Call.operands] at h
  have ha : ∀ x ∈ args.toList, ρ x = ρ' x := fun x hx => h x (by simp; exact .inr (by simpa using hx))
  have hz : ∀ l : List TypeId, ((args.toList.zip l).map fun p => opT E ρ p.2 p.1) = ((args.toList.zip l).map fun p => opT E ρ' p.2 p.1) := fun l =>
    List.map_congr_left fun p hp => opT_congr (ha p.1 (List.of_mem_zip hp).1) p.2
  unfold evCall
  simp only
  split
  · rename_i x t e1 e2
    simp only [ha x (by simp [e1])]
  · rename_i x y t u e1 e2
    simp only [ha x (by simp [e1]), opT, ha y (by simp [e1])]
  · rename_i x t e1 e2
    simp only [ha x (by simp [e1])]
  · rename_i x y t u e1 e2
    simp only [opT, ha x (by simp [e1]), ha y (by simp [e1])]
  · rename_i f
    have hf : ρ f = ρ' f := h f (by simp)
    simp only [hf, hz]
  · rfl
theorem evOp_congr {ρ ρ' : Operand → AT} {gen : Nat → Bool} {call : CallF} {base : Nat} {rt : RtF} {nx : Nat} {o : Oper} (h : ∀ x ∈ o.op.operands, ρ x = ρ' x) :
    evOp E gen call base ρ ob rt nx o = evOp E gen call base ρ' ob rt nx o := by
  have hg : (∀ cs b, o.op ≠ .select cs b) → evGen E ρ o = evGen E ρ' o := fun hs => evGen_congr hs h
  unfold evOp
  split
  · rename_i x hop
    rw [hop] at h
    simp only [Op.operands] at h
    simp only [opT, h x (by simp)]
  · rename_i x hop
    rw [hop] at h
    simp only [Op.operands] at h
    simp only [opT, h x (by simp)]
  · rename_i q x y hop
    rw [hop] at h
    simp only [Op.operands] at h
    simp only [opT, h q (by simp), h x (by simp), h y (by simp)]
  · rfl
  · rename_i t x hop
    rw [hop] at h
    simp only [Op.operands] at h
    simp only [opT, h x (by simp)]
  · rename_i t parts hop
    rw [hop] at h
    simp only [Op.operands] at h
    have hp : ∀ p ∈ parts.toList, ρ p.2 = ρ' p.2 := fun p hp => h p.2 (by simp; exact ⟨p.1, by simpa using hp⟩)
    simp only [fillS_congr hp, fillA_congr hp]
  · rename_i t n parts hop
    rw [hop] at h
    simp only [Op.operands] at h
    have hp : ∀ p ∈ parts.toList, ρ p.2 = ρ' p.2 := fun p hp => h p.2 (by simp; exact ⟨p.1, by simpa using hp⟩)
    have hs : (parts.toList.flatMap fun p => seenT (ρ p.2)) = parts.toList.flatMap fun p => seenT (ρ' p.2) := by
      rw [List.flatMap_def, List.flatMap_def]
      congr 1
      exact List.map_congr_left fun p hp' => by rw [hp p hp']
    simp only [fillR_congr hp, hs]
  · rename_i t x hop
    rw [hop] at h
    simp only [Op.operands] at h
    simp only [h x (by simp)]
  · rename_i t x y hop
    rw [hop] at h
    simp only [Op.operands] at h
    simp only [opT, h x (by simp), h y (by simp)]
  · rename_i t x f hop
    rw [hop] at h
    simp only [Op.operands] at h
    simp only [h x (by simp)]
  · rename_i t x f hop
    rw [hop] at h
    simp only [Op.operands] at h
    simp only [h x (by simp)]
  · rename_i t x y hop
    rw [hop] at h
    simp only [Op.operands] at h
    simp only [h x (by simp), h y (by simp)]
  · rename_i t x y hop
    have hg := hg (fun cs b e => by rw [hop] at e; cases e)
    rw [hop] at h
    simp only [Op.operands] at h
    simp only [h x (by simp), h y (by simp), hg]
  · rename_i t x lo hi mx hop
    have hg := hg (fun cs b e => by rw [hop] at e; cases e)
    rw [hop] at h
    simp only [Op.operands] at h
    have h1 := optIdx_congr (x := lo) (ρ := ρ) (ρ' := ρ') fun y hy => h y (by subst hy; simp)
    have h2 := optIdx_congr (x := hi) (ρ := ρ) (ρ' := ρ') fun y hy => h y (by subst hy; simp)
    have h3 := optIdx_congr (x := mx) (ρ := ρ) (ρ' := ρ') fun y hy => h y (by subst hy; simp)
    simp only [h x (by simp), h1, h2, h3, hg]
  · rename_i t x y hop
    rw [hop] at h
    simp only [Op.operands] at h
    simp only [h x (by simp), h y (by simp)]
  · rfl
  · rename_i t x i f hop
    rw [hop] at h
    simp only [Op.operands] at h
    simp only [h x (by simp), h i (by simp)]
  · rename_i t x i y hop
    rw [hop] at h
    simp only [Op.operands] at h
    simp only [h x (by simp), h i (by simp), h y (by simp)]
  · rename_i x hop
    have hg := hg (fun cs b e => by rw [hop] at e; cases e)
    rw [hop] at h
    simp only [Op.operands] at h
    simp only [h x (by simp), hg]
  · rename_i x f hop
    rw [hop] at h
    simp only [Op.operands] at h
    simp only [h x (by simp)]
  · rename_i f first caps hop
    rw [hop] at h
    simp only [Op.operands] at h
    have hc : caps.toList.map ρ = caps.toList.map ρ' := List.map_congr_left fun x hx => h x (by simp; exact .inr (by simpa using hx))
    simp only [hc]
  · rename_i c hop
    have hg := hg (fun cs b e => by rw [hop] at e; cases e)
    rw [hop] at h
    have hc : evCall E gen call base ρ ob rt nx o.dst c = evCall E gen call base ρ' ob rt nx o.dst c := evCall_congr h
    simp only [hc, hg]
  · rename_i op t x y q hop
    have hg := hg (fun cs b e => by rw [hop] at e; cases e)
    rw [hop] at h
    simp only [Op.operands] at h
    simp only [h x (by simp), h y (by simp), hg]
  all_goals first | rfl | (rename_i hop; exact hg (fun cs b e => by rw [hop] at e; cases e))
end
end Go.Proofs.YtjhljcnjafbkfaaDoor.X
end
section
set_option linter.unusedVariables false
namespace Go.Proofs.YtjhljcnjafbkfaaDoor.X
open Go.RowKit
section
variable {E : Env} {ob ob' : ObF} {rt rt' : RtF} {nx nx' : Nat} {ρ : Operand → AT} {gen : Nat → Bool} {call : CallF} {base : Nat}
theorem fillR_local {ti : TI} : ∀ {parts : List (Nat × Operand)} {cs : List (List PV)}, (∀ o ∈ parts.flatMap (fun p => seenT (ρ p.2)), ob o = ob' o) → fillR ti E ob ρ cs parts = fillR ti E ob' ρ cs parts
  | [], _, _ => rfl
  | (i, x) :: r, cs, h => by
    have ih := fun cs => fillR_local (cs := cs) (parts := r) (ti := ti) fun o ho => h o (by simp only [List.flatMap_cons, List.mem_append]; exact .inr ho)
    have hx : (cellsOf (opT E ρ ti.e x)).bind (pvL ob) = (cellsOf (opT E ρ ti.e x)).bind (pvL ob') := by
      cases hc : cellsOf (opT E ρ ti.e x) with
      | none => rfl
      | some vs =>
        show pvL ob vs = pvL ob' vs
        refine pvL_local fun o ho => h o ?_
        rw [cells_seen hc] at ho
        simp only [List.flatMap_cons, List.mem_append]
        refine .inl ?_
        unfold opT at ho
        split at ho
        · simp [seenT, seenC] at ho
        · exact ho
    simp only [fillR, hx, ih]
def Like (u : Upd) (ob ob' : ObF) (rt rt' : RtF) (nx nx' : Nat) : Prop :=
  (∀ o ∈ u.rd, ob o = ob' o) ∧ (u.nl = true → rt = rt' ∧ nx = nx') ∧ (u.all.isSome = true → ob = ob' ∧ rt = rt' ∧ nx = nx')
mutual
theorem snapC_local : ∀ (c : CV), (∀ o ∈ looksC ob c, ob o = ob' o) → snapC ob c = snapC ob' c ∧ looksC ob c = looksC ob' c
  | .p _ x, _ => ⟨rfl, rfl⟩
  | .vw o lo n, h => ⟨by simp only [snapC]; exact pvC_local fun q hq => h q (by simpa [looksC, seenC] using hq), rfl⟩
  | .pt o off, h => by
    have h1 : ob o = ob' o := h o (by simp [looksC])
    simp only [snapC, looksC, ← h1]
    cases ho : ob o with
    | none => constructor <;> first | rfl | trivial
    | some x =>
      cases x with
      | var cs =>
        simp only
        rw [pvL_local (ob := ob) (ob' := ob') fun q hq => h q (by simp only [looksC, ho]; exact List.mem_cons_of_mem _ hq)]
        constructor <;> first | rfl | trivial
      | arr fz z rows => constructor <;> first | rfl | trivial
      | mp => constructor <;> first | rfl | trivial
  | .pr o r off, h => by
    have h1 : ob o = ob' o := h o (by simp [looksC])
    simp only [snapC, looksC, ← h1]
    constructor <;> first | rfl | trivial
  | .mt _, _ => ⟨rfl, rfl⟩
  | .cl f cs, h => by
    obtain ⟨h1, h2⟩ := snapL_local cs fun o ho => h o (by simpa [looksC] using ho)
    simp only [snapC, looksC, h1, h2]
    constructor <;> first | rfl | trivial
theorem snapL_local : ∀ (cs : List CV), (∀ o ∈ looksL ob cs, ob o = ob' o) → snapL ob cs = snapL ob' cs ∧ looksL ob cs = looksL ob' cs
  | [], _ => ⟨rfl, rfl⟩
  | c :: cs, h => by
    obtain ⟨h1, h2⟩ := snapC_local c fun o ho => h o (by simp only [looksL, List.mem_append]; exact .inl ho)
    obtain ⟨h3, h4⟩ := snapL_local cs fun o ho => h o (by simp only [looksL, List.mem_append]; exact .inr ho)
    simp only [snapL, looksL, h1, h2, h3, h4]
    exact ⟨trivial, trivial⟩
end
theorem snapOf_local {x : AT} (h : ∀ o ∈ looksT ob x, ob o = ob' o) : snapOf ob x = snapOf ob' x ∧ looksT ob x = looksT ob' x := by
  cases x with
  | one c =>
    obtain ⟨h1, h2⟩ := snapC_local c h
    simp only [snapOf, looksT, h1, h2]
    exact ⟨trivial, trivial⟩
  | agg cs =>
    obtain ⟨h1, h2⟩ := snapL_local cs h
    simp only [snapOf, looksT, h1, h2]
    exact ⟨trivial, trivial⟩
  | _ => exact ⟨rfl, rfl⟩
theorem snapArgs_local : ∀ {xs : List AT}, (∀ o ∈ xs.flatMap (looksT ob), ob o = ob' o) → snapArgs ob xs = snapArgs ob' xs ∧ xs.flatMap (looksT ob) = xs.flatMap (looksT ob')
  | [], _ => ⟨rfl, rfl⟩
  | x :: xs, h => by
    obtain ⟨h1, h2⟩ := snapOf_local (x := x) fun o ho => h o (by simp only [List.flatMap_cons, List.mem_append]; exact .inl ho)
    obtain ⟨h3, h4⟩ := snapArgs_local (xs := xs) fun o ho => h o (by simp only [List.flatMap_cons, List.mem_append]; exact .inr ho)
    simp only [snapArgs, List.flatMap_cons, h1, h2, h3, h4]
    exact ⟨trivial, trivial⟩
theorem seen_looks (c : CV) : ∀ o ∈ seenC c, o ∈ looksC ob c := by
  intro q hq
  cases c <;> simp_all [looksC, seenC]
theorem looksL_flat : ∀ {cs : List CV}, looksL ob cs = cs.flatMap (looksC ob)
  | [] => rfl
  | c :: cs => by simp only [looksL, List.flatMap_cons, looksL_flat]
theorem seenT_looks {x : AT} : ∀ o ∈ seenT x, o ∈ looksT ob x := by
  intro o ho
  cases x with
  | one c => exact seen_looks c o ho
  | agg cs =>
    obtain ⟨c, hc, h⟩ := List.mem_flatMap.1 ho
    simp only [looksT, looksL_flat]
    exact List.mem_flatMap.2 ⟨c, hc, seen_looks c o h⟩
  | _ => simp [seenT] at ho
theorem flat_rd {g : FuncId} {xs : List Arg} {R : List Nat} {u : Upd} (h : flatCall call g xs R = some u) : u.rd = R ∧ u.all = none := by
  unfold flatCall at h
  simp only [Option.bind_eq_some_iff] at h
  obtain ⟨rs, _, h⟩ := h
  split at h
  · cases h; exact ⟨rfl, rfl⟩
  · cases h
theorem looks_caps {caps : List PV} : (caps.map fun x => AT.one (.p none x)).flatMap (looksT ob) = [] := by
  induction caps with
  | nil => rfl
  | cons x xs ih => simp only [List.map_cons, List.flatMap_cons, ih]; rfl
theorem looks_one {caps : List CV} : (caps.map AT.one).flatMap (looksT ob) = looksL ob caps := by
  induction caps with
  | nil => rfl
  | cons x xs ih => simp only [List.map_cons, List.flatMap_cons, ih, looksL]; rfl
theorem zero_local' {t : TypeId} {ti : TI} (h : E.T t = some ti) : pvL ob ti.zero = pvL ob' ti.zero := by
  obtain ⟨_, _, _, _, _, _, _, hz, _⟩ := (tiOk h).base
  exact pvL_local fun o ho => by rw [zero_seen hz] at ho; cases ho
theorem mvCall_all {d : Nat} {g : FuncId} {xs : List AT} {u : Upd} (h : mvCall call base d g xs ob rt nx = some u) : u.all.isSome = true := by
  unfold mvCall at h
  split at h
  · simp only at h
    split at h
    · split at h
      · unfold mvEnd at h
        simp only at h
        split at h
        · simp only [Option.map_eq_some_iff] at h
          obtain ⟨r, _, rfl⟩ := h
          rfl
        · cases h
      · cases h
    · cases h
  · cases h
theorem evCall_local {dst : Option Nat} {c : Call} {u : Upd} (h : evCall E gen call base ρ ob rt nx dst c = some u) (l : Like u ob ob' rt rt' nx nx') :
    evCall E gen call base ρ ob' rt' nx' dst c = some u := by
  obtain ⟨l1, l2, l3⟩ := l
  obtain ⟨callee, args, ts⟩ := c
  unfold evCall at h ⊢
  simp only at h ⊢
  split at h
  · exact h
  · split at h
    · split at h
      · rename_i hk
        rw [if_pos hk]
        split at h
        · split at h
          · split at h
            · rename_i o lo n cy e1 e2 _ _ z' rows z l' hob hpv hb
              cases h
              have h1 := l1 o (by simp)
              have h2 : pvC ob cy = pvC ob' cy := pvC_local fun q hq => l1 q (by simp [hq])
              simp only [← h1, hob, ← h2, hpv]
              rw [if_pos hb]
            · cases h
          · cases h
        · cases h
      · cases h
    · cases h
  · split at h
    · split at h
      · rename_i hob hte
        split at h
        · rename_i z hz
          split at h
          · rename_i hb
            cases h
            have h1 := l1 _ (List.mem_cons_self ..)
            simp only [← h1, hob, hte, ← zero_local' (ob := ob) (ob' := ob') hte, hz]
            rw [if_pos hb]
          · cases h
        · cases h
      · cases h
    · cases h
  · split at h
    · split at h
      · rename_i hk
        rw [if_pos hk]
        split at h
        · rename_i hg
          rw [if_pos hg]
          split at h
          · split at h
            · rename_i hl hq
              split at h
              · rename_i hb
                cases h
                have h1 := l1 _ (List.mem_cons_self ..)
                rw [← h1, hq, ← pvC_local (ob := ob) (ob' := ob') fun q hq => l1 q (List.mem_cons_of_mem _ hq), hl]
                simp only
                rw [if_pos hb]
              · cases h
            · cases h
          · cases h
        · rename_i hg
          rw [if_neg hg]
          split at h
          · split at h
            · rename_i hb
              cases h
              obtain ⟨rfl, rfl⟩ := l2 rfl
              rw [if_pos hb]
            · cases h
          · cases h
      · cases h
    · cases h
  · split at h
    · rename_i hk
      rw [if_pos hk]
      split at h
      · split at h
        · rename_i hg
          rw [if_pos hg]
          obtain ⟨rfl, rfl, rfl⟩ := l3 (mvCall_all h)
          exact h
        · rename_i hg
          rw [if_neg hg]
          split at h
          · rename_i xs hxs
            simp only [Option.map_eq_some_iff] at h
            obtain ⟨rs, hrs, rfl⟩ := h
            rw [← argsOf_local (ob := ob) (ob' := ob') l1, hxs]
            simp only [hrs, Option.map_some]
            rw [icy_local (ob := ob) (ob' := ob') l1]
          · rename_i hxs
            split at h
            · rename_i xs hsn
              have hrd := (flat_rd h).1
              rw [hrd] at l1
              obtain ⟨q1, q2⟩ := snapArgs_local (ob := ob) (ob' := ob') (xs := (args.toList.zip ts.toList).map fun p => opT E ρ p.2 p.1) l1
              rw [← argsOf_local (ob := ob) (ob' := ob') fun o ho => by
                obtain ⟨x, hx, hx'⟩ := List.mem_flatMap.1 ho
                exact l1 o (List.mem_flatMap.2 ⟨x, hx, seenT_looks o hx'⟩), hxs]
              simp only
              rw [← (snapArgs_local (ob := ob) (ob' := ob') fun o ho => by
                rw [List.flatMap_append, looks_caps, List.append_nil] at ho
                exact l1 o ho).1, hsn]
              simp only
              rw [← q2]
              exact h
            · cases h
      · split at h
        · rename_i hg
          rw [if_pos hg]
          obtain ⟨rfl, rfl, rfl⟩ := l3 (mvCall_all h)
          exact h
        · rename_i hg
          rw [if_neg hg]
          split at h
          · rename_i xs hsn
            have hrd := (flat_rd h).1
            rw [hrd] at l1
            obtain ⟨q1, q2⟩ := snapArgs_local (ob := ob) (ob' := ob') (xs := (args.toList.zip ts.toList).map fun p => opT E ρ p.2 p.1) fun o ho => l1 o (List.mem_append_left _ ho)
            obtain ⟨q3, q4⟩ := snapL_local (ob := ob) (ob' := ob') _ fun o ho => l1 o (List.mem_append_right _ ho)
            rw [← (snapArgs_local (ob := ob) (ob' := ob') fun o ho => by
              rw [List.flatMap_append, looks_one] at ho
              exact l1 o ho).1, hsn]
            simp only
            rw [← q2, ← q4]
            exact h
          · cases h
      · cases h
    · cases h
  · cases h
theorem zero_local {t : TypeId} {ti : TI} (h : E.T t = some ti) : pvL ob ti.zero = pvL ob' ti.zero := by
  obtain ⟨_, _, _, _, _, _, _, hz, _⟩ := (tiOk h).base
  exact pvL_local fun o ho => by rw [zero_seen hz] at ho; cases ho
theorem evOp_local {o : Oper} {u : Upd} (h : evOp E gen call base ρ ob rt nx o = some u) (l : Like u ob ob' rt rt' nx nx') :
    evOp E gen call base ρ ob' rt' nx' o = some u := by
  unfold evOp at h ⊢
  split at h
  · exact h
  · exact h
  · exact h
  · split at h
    · rename_i e1 e2
      split at h
      · rename_i e3
        cases h
        rw [← l.1 _ (by simp), e3]
      · cases h
    · cases h
  · split at h
    · split at h
      · rename_i e3
        cases h
        rw [← l.1 _ (by simp), e3]
      · cases h
    · cases h
  · exact h
  · split at h
    · split at h
      · rename_i hk
        rw [if_pos hk]
        split at h
        · split at h
          · split at h
            · rename_i te hte _ z hz hl
              rw [← zero_local (ob := ob) (ob' := ob') hte, hz]
              simp only
              rw [if_pos hl]
              simp only [Option.map_eq_some_iff] at h ⊢
              obtain ⟨rs, hrs, rfl⟩ := h
              refine ⟨rs, ?_, ?_⟩
              · rw [← fillR_local (ob := ob) (ob' := ob') l.1]; exact hrs
              · rw [icy_local (ob := ob) (ob' := ob') l.1]
            · cases h
          · cases h
        · cases h
      · cases h
    · cases h
  · split at h
    · split at h
      · split at h
        · rename_i hob
          simp only [Option.map_eq_some_iff] at h ⊢
          obtain ⟨x, hx, rfl⟩ := h
          rw [← l.1 _ (by simp), hob]
          simp only [hx, Option.map_some]
        · cases h
      · split at h
        · split at h
          · rename_i hob _ _ hrow
            simp only [Option.map_eq_some_iff] at h ⊢
            obtain ⟨x, hx, rfl⟩ := h
            rw [← l.1 _ (by simp), hob]
            simp only [hrow, hx, Option.map_some]
          · cases h
        · cases h
      · exact h
      · cases h
    · cases h
  · split at h
    · split at h
      · rename_i hob
        split at h
        · rename_i hb
          cases h
          rw [← l.1 _ (by simp), hob]
          simp only
          rw [if_pos hb]
        · cases h
      · cases h
    · split at h
      · rename_i hob hpv
        split at h
        · rename_i hrow
          split at h
          · rename_i hb
            cases h
            rw [← l.1 _ (by simp), ← pvL_local (ob := ob) (ob' := ob') fun q hq => l.1 q (by simp only [List.mem_cons]; exact .inr hq), hob, hpv]
            simp only [hrow]
            rw [if_pos hb, icy_local (ob := ob) (ob' := ob') fun q hq => l.1 q (by simp only [List.mem_cons]; exact .inr hq)]
          · cases h
        · cases h
      · cases h
    · cases h
  · exact h
  · exact h
  · split at h
    · split at h
      · rename_i hk
        rw [if_pos hk]
        exact h
      · rename_i hk
        rw [if_neg hk]
        split at h
        · rename_i hk
          rw [if_pos hk]
          split at h
          · exact h
          · split at h
            · rename_i hob
              split at h
              · rename_i hb
                cases h
                rw [← l.1 _ (by simp), hob]
                simp only
                rw [if_pos hb]
              · cases h
            · cases h
          · cases h
        · cases h
    · cases h
  · exact h
  · split at h
    · exact h
    · split at h
      · rename_i hob
        simp only at h ⊢
        split at h
        · rename_i hb
          cases h
          rw [← l.1 _ (by simp), hob]
          simp only
          rw [if_pos hb]
        · cases h
      · cases h
    · exact h
    · exact h
  · split at h
    · split at h
      · rename_i te hte
        split at h
        · rename_i z hz
          rw [← zero_local (ob := ob) (ob' := ob') hte, hz]
          simp only
          split at h
          · rename_i hb
            rw [if_pos hb]
            split at h
            · rename_i h0
              cases h
              obtain ⟨rfl, rfl⟩ := l.2.1 rfl
              rw [if_pos h0]
            · rename_i h0
              rw [if_neg h0]
              split at h
              · rename_i h1
                rw [if_pos h1]
                split at h
                · rename_i hob
                  cases h
                  rw [← l.1 _ (by simp), hob]
                · cases h
              · cases h
          · cases h
        · cases h
      · cases h
    · cases h
  · split at h
    · split at h
      · rename_i hob
        cases h
        rw [← l.1 _ (by simp), hob]
      · cases h
    · cases h
  · split at h
    · split at h
      · rename_i hob
        simp only [Option.map_eq_some_iff] at h ⊢
        obtain ⟨x, hx, rfl⟩ := h
        rw [← l.1 _ (by simp), hob]
        simp only [hx, Option.map_some]
      · cases h
    · cases h
  · split at h
    · split at h
      · rename_i hob
        simp only [Option.map_eq_some_iff] at h ⊢
        obtain ⟨x, hx, rfl⟩ := h
        rw [← l.1 _ (by simp), hob]
        simp only [hx, Option.map_some]
      · cases h
    · cases h
  · exact h
  · exact h
  · exact h
  · split at h
    · split at h
      · rename_i hu
        cases h
        rw [evCall_local hu l]
      · rename_i hu
        have hl : ∀ (c : Call), c.callee = .builtin .len → evCall E gen call base ρ ob rt nx o.dst c = evCall E gen call base ρ ob' rt' nx' o.dst c := by
          intro c hc
          obtain ⟨callee, args, ts⟩ := c
          simp only at hc
          subst hc
          unfold evCall
          simp only
          generalize args.toList = as
          generalize ts.toList = us
          rcases as with _ | ⟨x, _ | ⟨y, l⟩⟩ <;> rcases us with _ | ⟨t, _ | ⟨t', us⟩⟩ <;> rfl
        rename_i hc _
        rw [← hl _ hc, hu]
        exact h
    · exact evCall_local h l
    · exact evCall_local h l
    · exact evCall_local h l
    · split at h
      · rename_i hb
        rw [if_pos hb]
        exact evCall_local h l
      · rename_i hb
        rw [if_neg hb]
        exact h
    · cases h
  all_goals first | exact h | cases h
end
end Go.Proofs.YtjhljcnjafbkfaaDoor.X
end
section
set_option linter.unusedVariables false
namespace Go.Proofs.YtjhljcnjafbkfaaDoor.X
open Go.RowKit
section
variable {E : Env} {gen : FuncId → Bool} {call : CallF} {base nt : Nat} {ops : Array Oper}
theorem evOpd_apU {s : St} {dst : Option Nat} {u : Upd} {x : Operand} (h : ∀ d, dst = some d → x ≠ .tmp d) : evOpd E (apU dst u s).tm x = evOpd E s.tm x := by
  cases x with
  | tmp t =>
    cases dst with
    | none => rfl
    | some d => exact upd_ne _ _ fun e => h d rfl (by rw [e])
  | _ => rfl
theorem looks_opd {o : Oper} {d : Nat} (h : d ∉ o.looksAt ops) {x : Operand} (hx : x ∈ o.op.operands) : x ≠ .tmp d := fun e => by
  subst e
  exact h (List.mem_append_left _ (List.mem_filterMap.2 ⟨.tmp d, by simpa using hx, rfl⟩))
theorem evGuard_apU {s : St} {dst : Option Nat} {u : Upd} {o : Oper} (h : ∀ d, dst = some d → d ∉ o.looksAt ops) : evGuard ops (apU dst u s).tm o.guard = evGuard ops s.tm o.guard := by
  cases hg : o.guard with
  | none => rfl
  | some g =>
    obtain ⟨j, want⟩ := g
    unfold evGuard
    simp only
    cases hj : (ops[j]?).bind (·.dst) with
    | none => simp only
    | some t =>
      have : (apU dst u s).tm t = s.tm t := by
        cases dst with
        | none => rfl
        | some d => exact upd_ne _ _ fun e => h d rfl (by subst e; simp [Oper.looksAt, hg, hj])
      simp only [this]
theorem quiet_ob {u : Upd} (h : u.quiet = true) : u.ow = [] ∧ u.rd = [] ∧ u.nl = false ∧ u.all = none := by
  simp only [Upd.quiet, Bool.and_eq_true, Bool.not_eq_true', List.isEmpty_iff, Option.isNone_iff_eq_none] at h
  exact ⟨h.1.1.1, h.1.1.2, h.1.2, h.2⟩
theorem foldl_ob {l : List (Nat × Obj)} {f : ObF} {o : Nat} (h : ∀ p ∈ l, p.1 ≠ o) : (l.foldl (fun f p => upd f p.1 (some p.2)) f) o = f o := by
  induction l generalizing f with
  | nil => rfl
  | cons p l ih =>
    rw [List.foldl_cons, ih fun q hq => h q (List.mem_cons_of_mem _ hq)]
    exact upd_ne _ _ (Ne.symm (h p (List.mem_cons_self ..)))
theorem upd_comm {α : Type} (f : Nat → α) {a b : Nat} (x y : α) (h : a ≠ b) : upd (upd f a x) b y = upd (upd f b y) a x := by
  funext n
  unfold upd
  by_cases h1 : n = a <;> by_cases h2 : n = b <;> simp_all
theorem foldl_one {l : List (Nat × Obj)} {f : ObF} {a : Nat} {x : Option Obj} (h : ∀ p ∈ l, p.1 ≠ a) :
    upd (l.foldl (fun f p => upd f p.1 (some p.2)) f) a x = l.foldl (fun f p => upd f p.1 (some p.2)) (upd f a x) := by
  induction l generalizing f with
  | nil => rfl
  | cons p l ih =>
    rw [List.foldl_cons, List.foldl_cons, ih fun q hq => h q (List.mem_cons_of_mem _ hq), upd_comm _ _ _ (h p (List.mem_cons_self ..))]
theorem foldl_comm {l m : List (Nat × Obj)} {f : ObF} (h : ∀ p ∈ l, ∀ q ∈ m, q.1 ≠ p.1) :
    m.foldl (fun f p => upd f p.1 (some p.2)) (l.foldl (fun f p => upd f p.1 (some p.2)) f) = l.foldl (fun f p => upd f p.1 (some p.2)) (m.foldl (fun f p => upd f p.1 (some p.2)) f) := by
  induction l generalizing f with
  | nil => rfl
  | cons p l ih =>
    rw [List.foldl_cons, List.foldl_cons, ih fun q hq => h q (List.mem_cons_of_mem _ hq), ← foldl_one (h p (List.mem_cons_self ..))]
theorem like_of_apart {u v : Upd} {s : St} {dst : Option Nat} (h : u.apart v = true) : Like v (apU dst u s).ob s.ob (apU dst u s).rt s.rt (apU dst u s).nx s.nx := by
  unfold Upd.apart at h
  split at h
  · rename_i hall
    rw [Bool.or_eq_true] at h
    have key : u.quiet = true → Like v (apU dst u s).ob s.ob (apU dst u s).rt s.rt (apU dst u s).nx s.nx := fun hq => by
      obtain ⟨h1, h2, h3, h4⟩ := quiet_ob hq
      simp only [apU, h1, h3, h4, List.foldl_nil]
      exact ⟨fun _ _ => rfl, fun _ => ⟨by split <;> first | rfl | contradiction, rfl⟩, fun _ => ⟨rfl, by split <;> first | rfl | contradiction, rfl⟩⟩
    rcases h with h | h
    · exact key h
    · obtain ⟨h1, h2, h3, h4⟩ := quiet_ob h
      exact ⟨fun o ho => (by rw [h2] at ho; cases ho), fun hn => (by rw [h3] at hn; cases hn), fun hn => (by rw [h4] at hn; cases hn)⟩
  · rename_i hall
    simp only [Bool.or_eq_true, not_or, Bool.not_eq_true, Option.isSome_eq_false_iff, Option.isNone_iff_eq_none] at hall
    obtain ⟨hu, hv⟩ := hall
    simp only [Bool.and_eq_true, List.all_eq_true, Bool.not_eq_true', List.contains_eq_mem, decide_eq_false_iff_not, Bool.and_eq_false_iff] at h
    obtain ⟨⟨h1, h2⟩, h3⟩ := h
    refine ⟨fun o ho => ?_, fun hn => ?_, fun hn => by rw [hv] at hn; cases hn⟩
    · simp only [apU, hu]
      exact foldl_ob fun p hp e => (h1 p hp).1 (e ▸ ho)
    · have hun : u.nl = false := h3.resolve_right (by simp [hn])
      simp only [apU, hu, hun]
      exact ⟨by split <;> first | rfl | contradiction, rfl⟩
theorem apart_symm {u v : Upd} (h : u.apart v = true) : v.apart u = true := by
  unfold Upd.apart at h ⊢
  by_cases hc : (u.all.isSome || v.all.isSome) = true
  · rw [if_pos hc] at h
    rw [if_pos (by rw [Bool.or_comm]; exact hc), Bool.or_comm]
    exact h
  · rw [if_neg hc] at h
    rw [if_neg (by rw [Bool.or_comm]; exact hc)]
    simp only [Bool.and_eq_true, List.all_eq_true, Bool.not_eq_true', List.contains_eq_mem, decide_eq_false_iff_not, Bool.and_eq_false_iff, List.any_eq_false, beq_iff_eq] at h ⊢
    obtain ⟨⟨h1, h2⟩, h3⟩ := h
    exact ⟨⟨fun p hp => ⟨h2 p hp, fun q hq e => (h1 q hq).2 p hp e.symm⟩, fun p hp => (h1 p hp).1⟩, h3.symm⟩
theorem Like.symm {u : Upd} {ob ob' : ObF} {rt rt' : RtF} {nx nx' : Nat} (h : Like u ob ob' rt rt' nx nx') : Like u ob' ob rt' rt nx' nx :=
  ⟨fun o ho => (h.1 o ho).symm, fun hn => ⟨(h.2.1 hn).1.symm, (h.2.1 hn).2.symm⟩, fun hn => ⟨(h.2.2 hn).1.symm, (h.2.2 hn).2.1.symm, (h.2.2 hn).2.2.symm⟩⟩
theorem evRow_back {s : St} {x y : Oper} {u v : Upd} (hxy : ∀ d, x.dst = some d → d ∉ y.looksAt ops) (hu : u.apart v = true) :
    evRow E gen call base nt ops (apU x.dst u s) y = some v ↔ evRow E gen call base nt ops s y = some v := by
  unfold evRow
  have ho : ∀ z ∈ y.op.operands, evOpd E (apU x.dst u s).tm z = evOpd E s.tm z := fun z hz => evOpd_apU fun d hd => looks_opd (hxy d hd) hz
  have hl := like_of_apart (s := s) (dst := x.dst) hu
  rw [evGuard_apU hxy, evOp_congr ho]
  split
  · split
    · exact ⟨fun h => evOp_local h hl, fun h => evOp_local h hl.symm⟩
    · exact Iff.rfl
    · exact Iff.rfl
  · exact Iff.rfl
theorem apU_comm {s : St} {x y : Option Nat} {u v : Upd} (hd : ∀ d, x = some d → y ≠ some d) (hu : u.apart v = true) : apU y v (apU x u s) = apU x u (apU y v s) := by
  have tmc : (apU y v (apU x u s)).tm = (apU x u (apU y v s)).tm := by
    cases x with
    | none => cases y <;> rfl
    | some d =>
      cases y with
      | none => rfl
      | some e => exact upd_comm _ _ _ fun h => hd d rfl (by rw [h])
  have rest : (apU y v (apU x u s)).ob = (apU x u (apU y v s)).ob ∧ (apU y v (apU x u s)).rt = (apU x u (apU y v s)).rt ∧ (apU y v (apU x u s)).nx = (apU x u (apU y v s)).nx := by
    have key : ∀ {s : St} {x y : Option Nat} {u v : Upd}, u.quiet = true → (apU y v (apU x u s)).ob = (apU x u (apU y v s)).ob ∧ (apU y v (apU x u s)).rt = (apU x u (apU y v s)).rt ∧ (apU y v (apU x u s)).nx = (apU x u (apU y v s)).nx := by
      intro s x y u v hq
      obtain ⟨h1, h2, h3, h4⟩ := quiet_ob hq
      cases hrw : u.rw <;> simp only [apU, h1, h4, List.foldl_nil, h3, hrw] <;> exact ⟨trivial, rfl, rfl⟩
    unfold Upd.apart at hu
    split at hu
    · rw [Bool.or_eq_true] at hu
      rcases hu with hq | hq
      · exact key hq
      · obtain ⟨a, b, c⟩ := key (s := s) (x := y) (y := x) (u := v) (v := u) hq
        exact ⟨a.symm, b.symm, c.symm⟩
    · rename_i hall
      simp only [Bool.or_eq_true, not_or, Bool.not_eq_true, Option.isSome_eq_false_iff, Option.isNone_iff_eq_none] at hall
      obtain ⟨ha, hb⟩ := hall
      simp only [Bool.and_eq_true, List.all_eq_true, Bool.not_eq_true', List.contains_eq_mem, decide_eq_false_iff_not, Bool.and_eq_false_iff, List.any_eq_false, beq_iff_eq] at hu
      obtain ⟨⟨h1, h2⟩, h3⟩ := hu
      refine ⟨?_, ?_, ?_⟩
      · simp only [apU, ha, hb]
        exact foldl_comm fun p hp q hq => (h1 p hp).2 q hq
      · simp only [apU, ha, hb]
        rcases h3 with h3 | h3 <;> simp only [h3]
        · cases u.rw <;> cases v.rw <;> rfl
        · cases u.rw <;> cases v.rw <;> rfl
      · simp only [apU, ha, hb]
        rcases h3 with h3 | h3 <;> simp [h3]
  cases hA : apU y v (apU x u s)
  cases hB : apU x u (apU y v s)
  rw [hA, hB] at tmc rest
  simp only at tmc rest
  rw [tmc, rest.1, rest.2.1, rest.2.2]
theorem evRows_cons {o : Oper} {r : List Oper} {s s' : St} {us : List Upd} : evRows E gen call base nt ops (o :: r) s = some (s', us) ↔
    ∃ u us', evRow E gen call base nt ops s o = some u ∧ evRows E gen call base nt ops r (apU o.dst u s) = some (s', us') ∧ us = u :: us' := by
  simp only [evRows]
  constructor
  · intro h
    split at h
    · rename_i u hu
      split at h
      · rename_i s2 us2 hr
        cases h
        exact ⟨u, us2, hu, hr, rfl⟩
      · cases h
    · cases h
  · rintro ⟨u, us', h1, h2, rfl⟩
    simp only [h1, h2]
theorem rows_front {x : Oper} {u : Upd} {r2 : List Oper} {us2 : List Upd} {s' : St} : ∀ {r1 : List Oper} {us1 : List Upd} {s : St}, r1.length = us1.length →
    evRows E gen call base nt ops (r1 ++ x :: r2) s = some (s', us1 ++ u :: us2) → (∀ y ∈ r1, y.apart ops x = true) → (∀ v ∈ us1, v.apart u = true) →
    evRow E gen call base nt ops s x = some u ∧ evRows E gen call base nt ops (r1 ++ r2) (apU x.dst u s) = some (s', us1 ++ us2)
  | [], [], s, _, h, _, _ => by
    obtain ⟨u', us', h1, h2, h3⟩ := evRows_cons.1 h
    cases h3
    exact ⟨h1, h2⟩
  | y :: r1, v :: us1, s, hl, h, hy, hv => by
    obtain ⟨v', us', h1, h2, h3⟩ := evRows_cons.1 h
    cases h3
    obtain ⟨h4, h5⟩ := rows_front (by simpa using hl) h2 (fun z hz => hy z (List.mem_cons_of_mem _ hz)) fun z hz => hv z (List.mem_cons_of_mem _ hz)
    obtain ⟨a1, a2, a3⟩ := Oper.apart_spec (hy y (List.mem_cons_self ..))
    have hvu := hv v (List.mem_cons_self ..)
    have h6 := (evRow_back a1 hvu).1 h4
    have h7 := (evRow_back (E := E) (gen := gen) (call := call) (base := base) (nt := nt) (s := s) a3 (apart_symm hvu)).2 h1
    refine ⟨h6, evRows_cons.2 ⟨v, us1 ++ us2, h7, ?_, rfl⟩⟩
    rw [← apU_comm a2 hvu]
    exact h5
end
end Go.Proofs.YtjhljcnjafbkfaaDoor.X
end
section
set_option linter.unusedVariables false
namespace Go.Proofs.YtjhljcnjafbkfaaDoor.X
open Go.RowKit
section
variable {E : Env} {gen : FuncId → Bool} {call : CallF} {base nt : Nat} {B : Blk} {ops : Array Oper}
def regionOk (ops : Array Oper) (l : List (Nat × Nat)) : Bool :=
  let m := Region.before ops
  (List.range ops.size).all fun i => match ops[i]? with
    | none => false
    | some oi => (oi.after.all fun e => e.on < i || !Region.binds .any e) && (List.range i).all fun j =>
        if (m.getD i 0).testBit j then oi.after.any fun e => Region.binds .any e && (e.on == j || decide (j < e.on) && (m.getD e.on 0).testBit j)
        else l.contains (j, i) && match ops[j]? with
          | some oj => oj.apart ops oi
          | none => false
structure Apart (ops : Array Oper) (l : List (Nat × Nat)) (anc : Nat → Nat → Prop) : Prop where
  edge : ∀ i o, ops[i]? = some o → ∀ e ∈ o.after, Region.binds .any e = true → e.on < i
  up : ∀ i o, ops[i]? = some o → ∀ j, j < i → anc i j → ∃ e ∈ o.after, Region.binds .any e = true ∧ (e.on = j ∨ j < e.on ∧ anc e.on j)
  free : ∀ i o, ops[i]? = some o → ∀ j, j < i → ¬ anc i j → (j, i) ∈ l ∧ ∃ q, ops[j]? = some q ∧ q.apart ops o = true
theorem regionOk_spec {l : List (Nat × Nat)} (h : regionOk ops l = true) : Apart ops l fun i j => ((Region.before ops).getD i 0).testBit j = true := by
  unfold regionOk at h
  simp only [List.all_eq_true, List.mem_range] at h
  have key : ∀ i o, ops[i]? = some o → (o.after.all fun e => e.on < i || !Region.binds .any e) = true ∧ ∀ j, j < i →
      (if ((Region.before ops).getD i 0).testBit j then o.after.any fun e => Region.binds .any e && (e.on == j || decide (j < e.on) && ((Region.before ops).getD e.on 0).testBit j)
        else l.contains (j, i) && match ops[j]? with
          | some oj => oj.apart ops o
          | none => false) = true := by
    intro i o ho
    have := h i (Array.getElem?_eq_some_iff.1 ho).1
    rw [ho] at this
    simpa only [Bool.and_eq_true, List.all_eq_true, List.mem_range] using this
  refine ⟨fun i o ho e he hb => ?_, fun i o ho j hj ha => ?_, fun i o ho j hj ha => ?_⟩
  · have := (Array.all_eq_true_iff_forall_mem.1 (key i o ho).1) e he
    simpa [hb] using this
  · have := (key i o ho).2 j hj
    rw [if_pos ha] at this
    rw [Array.any_eq_true'] at this
    obtain ⟨e, he, h1⟩ := this
    simp only [Bool.and_eq_true, Bool.or_eq_true, beq_iff_eq, decide_eq_true_eq] at h1
    exact ⟨e, he, h1.1, h1.2⟩
  · have := (key i o ho).2 j hj
    rw [if_neg ha] at this
    simp only [Bool.and_eq_true, List.contains_eq_mem, decide_eq_true_eq] at this
    refine ⟨this.1, ?_⟩
    cases hq : ops[j]? with
    | none => rw [hq] at this; cases this.2
    | some q => rw [hq] at this; exact ⟨q, rfl, this.2⟩
variable {l : List (Nat × Nat)} {anc : Nat → Nat → Prop}
def Closed (ops : Array Oper) (listed : Array Bool) : Prop := ∀ i o, ops[i]? = some o → listed.getD i false = true → ∀ e ∈ o.after, Region.binds .any e = true → listed.getD e.on false = true
theorem anc_listed (hA : Apart ops l anc) {listed : Array Bool} (hC : Closed ops listed) : ∀ (i : Nat) (o : Oper), ops[i]? = some o →
    (∀ e ∈ o.after, Region.binds .any e = true → listed.getD e.on false = true) → ∀ j, j < i → anc i j → listed.getD j false = true := by
  intro i
  induction i using Nat.strongRecOn with
  | _ i ih =>
    intro o ho hp j hj ha
    obtain ⟨e, he, hb, h1⟩ := hA.up i o ho j hj ha
    have hl := hp e he hb
    rcases h1 with rfl | ⟨h2, h1⟩
    · exact hl
    · have hlt := hA.edge i o ho e he hb
      cases hq : ops[e.on]? with
      | none =>
        have h3 := (Array.getElem?_eq_some_iff.1 ho).1
        have h4 := Array.getElem?_eq_none_iff.1 hq
        omega
      | some q => exact ih e.on hlt q hq (fun e' he' hb' => hC _ _ hq hl e' he' hb') j h2 h1
theorem cut_at : ∀ {L : List Nat} {i : Nat}, i ∈ L → ∃ L1 L2, L = L1 ++ i :: L2
  | [], _, h => by cases h
  | a :: L, i, h => by
    rcases List.mem_cons.1 h with rfl | h
    · exact ⟨[], L, rfl⟩
    · obtain ⟨L1, L2, rfl⟩ := cut_at h
      exact ⟨a :: L1, L2, rfl⟩
variable {g : Gh} {w : World}
theorem any_ok (hcall : CallOk E call) (hnt : nt ≤ 4096) (hA : Apart ops l anc) {ud : Nat → Upd} (hud : ∀ p ∈ l, (ud p.1).apart (ud p.2) = true) {Q : Exit → Act → World → Prop} {s' : St} :
    ∀ (fuel : Nat) (listed : Array Bool) (L : List Nat) (a : Act) (w : World) (g : Gh) (s : St), L.length = fuel → listed.size = ops.size → (∀ i, i < ops.size → (listed.getD i true = false ↔ i ∈ L)) →
      L.Pairwise (· < ·) → (∀ i ∈ L, i < ops.size) → Closed ops listed → CurN E B (base + 16384) nt s g a w →
      evRows E gen call base nt ops (L.map fun i => ops.getD i default) s = some (s', L.map ud) → Goes E B (base + 16384) nt s g w s' (Q .normal) →
      wpAny E.P .any ops Q fuel listed a w := by
  intro fuel
  induction fuel with
  | zero =>
    intro listed L a w g s hL hsz hl hP hlt hC c h hQ
    obtain rfl := List.eq_nil_of_length_eq_zero hL
    simp only [List.map_nil, evRows, Option.some.injEq, Prod.mk.injEq, and_true] at h
    subst h
    refine ⟨?_, hQ _ _ g c (Ext.refl ..)⟩
    rw [List.eq_nil_iff_forall_not_mem]
    intro i hi
    obtain ⟨h0, o, ho, _⟩ := mem_ready.1 hi
    have := (hl i (Array.getElem?_eq_some_iff.1 ho).1).1 h0
    cases this
  | succ fuel ih =>
    intro listed L a w g s hL hsz hl hP hlt hC c h hQ
    refine ⟨fun hr => ?_, fun i hi => ?_⟩
    · exfalso
      cases L with
      | nil => cases hL
      | cons i L =>
        have hi : i < ops.size := hlt i (List.mem_cons_self ..)
        obtain ⟨o, ho⟩ : ∃ o, ops[i]? = some o := ⟨ops[i], Array.getElem?_eq_getElem hi⟩
        have : i ∈ Region.ready .any ops listed := mem_ready.2 ⟨(hl i hi).2 (List.mem_cons_self ..), o, ho, fun e he hb => by
          have h1 := hA.edge i o ho e he hb
          have h2 : e.on ∉ i :: L := fun hm => by
            rcases List.mem_cons.1 hm with h3 | h3
            · omega
            · have := (List.pairwise_cons.1 hP).1 _ h3
              omega
          have h3 : listed.getD e.on true ≠ false := fun h4 => h2 ((hl e.on (by omega)).1 h4)
          have h4 : e.on < listed.size := by rw [hsz]; omega
          rw [Array.getD_eq_getD_getElem?, Array.getElem?_eq_getElem h4] at h3 ⊢
          simpa using h3⟩
        rw [hr] at this
        cases this
    · obtain ⟨h0, o, ho, hp⟩ := mem_ready.1 hi
      have hi' := (Array.getElem?_eq_some_iff.1 ho).1
      have hiL := (hl i hi').1 h0
      obtain ⟨L1, L2, rfl⟩ := cut_at hiL
      have hgo : ops.getD i default = o := by rw [Array.getD_eq_getD_getElem?, ho]; rfl
      have hlow : ∀ j ∈ L1, j < i := fun j hj => (List.pairwise_append.1 hP).2.2 j hj i (List.mem_cons_self ..)
      have hfree : ∀ j ∈ L1, (j, i) ∈ l ∧ ∃ q, ops[j]? = some q ∧ q.apart ops o = true := fun j hj => by
        have hj' := hlow j hj
        refine hA.free i o ho j hj' fun ha => ?_
        have h1 := anc_listed hA hC i o ho hp j hj' ha
        have h2 := (hl j (by omega)).2 (List.mem_append_left _ hj)
        have h4 : j < listed.size := by rw [hsz]; omega
        rw [Array.getD_eq_getD_getElem?, Array.getElem?_eq_getElem h4] at h1 h2
        simp at h1 h2
        rw [h1] at h2
        cases h2
      rw [List.map_append, List.map_cons, List.map_append, List.map_cons, hgo] at h
      obtain ⟨h1, h2⟩ := rows_front (by simp) h (fun y hy => by
          obtain ⟨j, hj, rfl⟩ := List.mem_map.1 hy
          obtain ⟨_, q, hq, hap⟩ := hfree j hj
          have : ops.getD j default = q := by rw [Array.getD_eq_getD_getElem?, hq]; rfl
          rw [this]; exact hap) fun v hv => by
          obtain ⟨j, hj, rfl⟩ := List.mem_map.1 hv
          exact hud _ (hfree j hj).1
      rw [← List.map_append, ← List.map_append] at h2
      have key : ∀ a' w' g', CurN E B (base + 16384) nt (apU o.dst (ud i) s) g' a' w' → Ext B (base + 16384) g w s.ob s.rt s.nx g' w' (apU o.dst (ud i) s).ob (apU o.dst (ud i) s).rt (apU o.dst (ud i) s).nx →
          wpAny E.P .any ops Q fuel (listed.setIfInBounds i true) a' w' := fun a' w' g' c' e' => by
        have hnd : i ∉ L1 ++ L2 := by
          intro hm
          have hP' := List.pairwise_append.1 hP
          rcases List.mem_append.1 hm with hm | hm
          · have := hlow i hm; omega
          · have := (List.pairwise_cons.1 hP'.2.1).1 i hm; omega
        refine ih _ (L1 ++ L2) a' w' g' _ ?_ (by simp [hsz]) (fun j hj => ?_) ?_ (fun j hj => hlt j ?_) (fun j q hq hlj e he hb => ?_) c' h2 fun a2 w2 g2 c2 e2 => hQ _ _ g2 c2 (e'.trans e2)
        · simp only [List.length_append, List.length_cons] at hL ⊢; omega
        · by_cases hij : i = j
          · subst hij
            constructor
            · intro h3
              simp [hsz, hj] at h3
            · exact fun h3 => absurd h3 hnd
          · rw [getD_set_ne true hij, hl j hj]
            simp only [List.mem_append, List.mem_cons]
            constructor
            · rintro (h3 | rfl | h3)
              · exact .inl h3
              · exact absurd rfl hij
              · exact .inr h3
            · rintro (h3 | h3)
              · exact .inl h3
              · exact .inr (.inr h3)
        · have hP' := List.pairwise_append.1 hP
          exact List.pairwise_append.2 ⟨hP'.1, (List.pairwise_cons.1 hP'.2.1).2, fun x hx y hy => hP'.2.2 x hx y (List.mem_cons_of_mem _ hy)⟩
        · rcases List.mem_append.1 hj with h3 | h3
          · exact List.mem_append_left _ h3
          · exact List.mem_append_right _ (List.mem_cons_of_mem _ h3)
        · by_cases hij : i = j
          · subst hij
            rw [ho] at hq
            cases hq
            exact getD_set_true (hp e he hb)
          · rw [getD_set_ne false hij] at hlj
            exact getD_set_true (hC j q hq hlj e he hb)
      unfold wpOp
      simp only [ho]
      have := row_ok (Q := Q) hcall hnt c h1 (K := wpAny E.P .any ops Q fuel (listed.setIfInBounds i true)) fun a' w' g' c' e' => key a' w' g' c' e'
      split
      · rename_i hw
        rw [if_pos hw] at this
        exact .inl this
      · rename_i hw
        rw [if_neg hw] at this
        exact this
theorem CurN.drew {lim : Nat} {s : St} {a : Act} (c : CurN E B lim nt s g a w) : CurN E B lim nt s g a { w with drawn := w.drawn + 1 } :=
  ⟨⟨c.cur.mem.drew c.cur.lab, c.cur.lab, fun t => (c.cur.tm t).ext (Ext.drew (B := B) (lim := lim)) c.cur.lab⟩, c.size, c.defers⟩
theorem evRows_len : ∀ {L : List Oper} {s s' : St} {us : List Upd}, evRows E gen call base nt ops L s = some (s', us) → us.length = L.length
  | [], s, s', us, h => by simp only [evRows, Option.some.injEq, Prod.mk.injEq] at h; rw [← h.2]; rfl
  | o :: L, s, s', us, h => by
    obtain ⟨u, us', _, h2, rfl⟩ := evRows_cons.1 h
    rw [List.length_cons, List.length_cons, evRows_len h2]
theorem region_ok {id : Nat} (hm : E.P.follows .mixedOrders = true) (hcall : CallOk E call) (hnt : nt ≤ 4096) (hA : regionOk ops l = true) {s s' : St} {us : List Upd} {a : Act} {Q : Exit → Act → World → Prop}
    (c : CurN E B (base + 16384) nt s g a w) (h : evRows E gen call base nt ops ops.toList s = some (s', us)) (ha : apartAll us l = true)
    (hQ : Goes E B (base + 16384) nt s g w s' (Q .normal)) : (Code.region id ops true).wp E.P Q a w := by
  refine wp_region_any hm ?_
  have hlen := evRows_len h
  have hud : ∀ p ∈ l, (us.getD p.1 { val := .no }).apart (us.getD p.2 { val := .no }) = true := fun p hp => by
    have := List.all_eq_true.1 ha p hp
    split at this
    · rename_i u v hu hv
      rw [List.getD_eq_getElem?_getD, List.getD_eq_getElem?_getD, hu, hv]
      exact this
    · cases this
  have hmap : (List.range ops.size).map (fun i => ops.getD i default) = ops.toList := by
    refine List.ext_getElem (by simp) fun i h1 h2 => ?_
    rw [List.getElem_map, List.getElem_range, Array.getD_eq_getD_getElem?, Array.getElem?_eq_getElem (by simpa using h1)]
    rfl
  have hus : (List.range ops.size).map (fun i => us.getD i { val := .no }) = us := by
    refine List.ext_getElem (by simpa using hlen.symm) fun i h1 h2 => ?_
    rw [List.getElem_map, List.getElem_range, List.getD_eq_getElem?_getD, List.getElem?_eq_getElem h2]
    rfl
  refine any_ok (gen := gen) (l := l) (anc := fun i j => ((Region.before ops).getD i 0).testBit j = true) (ud := fun i => us.getD i { val := .no }) (s' := s') hcall hnt (regionOk_spec hA) hud ops.size (Array.replicate ops.size false) (List.range ops.size) a { w with drawn := w.drawn + 1 } g s (by simp) (by simp) (fun i hi => by simp [hi]) List.pairwise_lt_range (fun i hi => List.mem_range.1 hi) (fun i o ho hl => ?_) c.drew ?_ fun a' w' g' c' e' => hQ _ _ g' c' (Ext.drew.trans e')
  · have := (Array.getElem?_eq_some_iff.1 ho).1
    simp [this] at hl
  · rw [hmap, hus]; exact h
end
end Go.Proofs.YtjhljcnjafbkfaaDoor.X
end
section
set_option linter.unusedVariables false
namespace Go.Proofs.YtjhljcnjafbkfaaDoor.X
open Go.RowKit
section
variable {E : Env} {B : Blk} {base lim nt nx0 m : Nat} {g g' g0 : Gh} {w w' w0 : World} {ob ob0 F : ObF} {rt rt0 : RtF} {nx : Nat} {os : List Nat} {vis : List Nat}
structure Ent (E : Env) (B : Blk) (base nt nx0 : Nat) (vis : List Nat) (g0 : Gh) (w0 : World) (ob0 : ObF) (rt0 : RtF) (s : St) (g : Gh) (a : Act) (w : World) : Prop where
  cur : CurN E B (base + 16384) nt s g a w
  ext : Ext B base g0 w0 ob0 rt0 nx0 g w s.ob s.rt s.nx
theorem head_ok (hv : ∀ o, o < base → o ∈ vis) (mem0 : RelM E.G g0 w0 ob0 rt0 nx0 B) {s s1 : St} {h : List Nat} {a : Act} (e : Ent E B base nt nx0 vis g0 w0 ob0 rt0 s g a w) (hh : head base nx0 vis h s = some s1) :
    ∃ g1, Ent E B base nt nx0 vis g0 w0 ob0 rt0 s1 g1 a w := by
  obtain ⟨⟨⟨hm, hlab, htm⟩, hsz, hdf⟩, he⟩ := e
  obtain ⟨γ2, β2, a1, a2, a3, a4, a5, a6, a7, a8, a9⟩ := head_core (ev := fun t => a.eval (.tmp t)) hm mem0.pos he.nx htm (fun o _ ho => hv o ho) hh
  refine ⟨⟨g.I, g.φ, γ2, β2⟩, ⟨⟨⟨a1, fun o ho => ?_, a2⟩, hsz, hdf⟩, ?_⟩⟩
  · obtain ⟨x, hx⟩ := Option.isSome_iff_exists.1 ho
    obtain ⟨y, hy, _⟩ := a3 o x hx
    exact hlab o (by rw [hy]; rfl)
  · refine ⟨he.below, he.I, he.old, he.cell, fun o x ho hx => ?_, he.φ, fun n hn ht => ?_, a6⟩
    · obtain ⟨y, hy, l⟩ := he.like o x ho hx
      obtain ⟨z, hz, l'⟩ := a4 o y hy (.inl ho)
      exact ⟨z, hz, l.trans l'⟩
    · obtain ⟨h1, h2⟩ := a5 n hn ht
      obtain ⟨h3, h4⟩ := he.rt n hn h1
      exact ⟨h3, h2.trans h4⟩
end
end Go.Proofs.YtjhljcnjafbkfaaDoor.X
end
section
set_option linter.unusedVariables false
namespace Go.Proofs.YtjhljcnjafbkfaaDoor.X
open Go.RowKit
section
variable {E : Env} {gen : Nat → Bool} {call : CallF} {base nt nx0 : Nat} {B : Blk} {vis : List Nat} {g g0 : Gh} {w w0 : World} {ob ob0 : ObF} {rt rt0 : RtF} {nx : Nat} {ρ : Operand → AT}
def outE : Out → Exit
  | .fall => .normal
  | .exit i => .exit i
  | .ret => .ret
def codeOk (pairs : Nat → Option (List (Nat × Nat))) : Code → Bool
  | .region id ops true => match pairs id with
    | some l => regionOk ops l
    | none => true
  | .seq a b | .cond _ a b => codeOk pairs a && codeOk pairs b
  | .block _ b | .loop b | .scope b => codeOk pairs b
  | _ => true
theorem atJoin_ok (hv : ∀ o, o < base → o ∈ vis) (mem0 : RelM E.G g0 w0 ob0 rt0 nx0 B) {H : Hint} {b : Code} {s s1 : St} {a : Act} (e : Ent E B base nt nx0 vis g0 w0 ob0 rt0 s g a w) (h : atJoin ⟨E, gen, call, base, nt, nx0, vis, H⟩ b s = some s1) :
    ∃ g1, Ent E B base nt nx0 vis g0 w0 ob0 rt0 s1 g1 a w := by
  unfold atJoin at h
  split at h
  · split at h
    · exact head_ok hv mem0 e h
    · cases h; exact ⟨g, e⟩
  · cases h; exact ⟨g, e⟩
theorem code_ok (hm : E.P.follows .mixedOrders = true) (hcall : CallOk E call) (hnt : nt ≤ 4096) (hv : ∀ o, o < base → o ∈ vis) (mem0 : RelM E.G g0 w0 ob0 rt0 nx0 B) {H : Hint} :
    ∀ (n : Nat), (∀ (c : Code) (s s' : St) (out : Out) (g : Gh) (a : Act) (w : World) (Q : Exit → Act → World → Prop), codeOk H.pairs c = true →
      evCode ⟨E, gen, call, base, nt, nx0, vis, H⟩ n c s = some (out, s') → Ent E B base nt nx0 vis g0 w0 ob0 rt0 s g a w →
      (∀ g' a' w', Ent E B base nt nx0 vis g0 w0 ob0 rt0 s' g' a' w' → Q (outE out) a' w') → c.wp E.P Q a w) ∧
      (∀ (c : Code) (s s' : St) (out : Out) (g : Gh) (a : Act) (w : World) (Q : Exit → Act → World → Prop), codeOk H.pairs c = true →
      evCode ⟨E, gen, call, base, nt, nx0, vis, H⟩ n (.loop c) s = some (out, s') → Ent E B base nt nx0 vis g0 w0 ob0 rt0 s g a w →
      (∀ g' a' w', Ent E B base nt nx0 vis g0 w0 ob0 rt0 s' g' a' w' → Q (outE out) a' w') → Code.rounds E.P c Q n a w) := by
  intro n
  induction n with
  | zero => exact ⟨fun c s s' out g a w Q hok h => (by cases h), fun c s s' out g a w Q hok h => (by cases h)⟩
  | succ n ihn =>
    have lo : ∀ (x : Code), (∀ (s s' : St) (out : Out) (g : Gh) (a : Act) (w : World) (Q : Exit → Act → World → Prop), codeOk H.pairs x = true →
        evCode ⟨E, gen, call, base, nt, nx0, vis, H⟩ (n + 1) x s = some (out, s') → Ent E B base nt nx0 vis g0 w0 ob0 rt0 s g a w →
        (∀ g' a' w', Ent E B base nt nx0 vis g0 w0 ob0 rt0 s' g' a' w' → Q (outE out) a' w') → x.wp E.P Q a w) →
        ∀ (s s' : St) (out : Out) (g : Gh) (a : Act) (w : World) (Q : Exit → Act → World → Prop), codeOk H.pairs x = true →
        evCode ⟨E, gen, call, base, nt, nx0, vis, H⟩ (n + 1) (.loop x) s = some (out, s') → Ent E B base nt nx0 vis g0 w0 ob0 rt0 s g a w →
        (∀ g' a' w', Ent E B base nt nx0 vis g0 w0 ob0 rt0 s' g' a' w' → Q (outE out) a' w') → Code.rounds E.P x Q (n + 1) a w := by
      intro x ihx s s' out g a w Q hok h e hQ
      replace h : evCodeA ⟨E, gen, call, base, nt, nx0, vis, H⟩ (evCode ⟨E, gen, call, base, nt, nx0, vis, H⟩ n) (.loop x) s = some (out, s') := h
      simp only [evCodeA] at h
      split at h
      · rename_i s1 hh
        obtain ⟨g1, e1⟩ := head_ok hv mem0 e hh
        rw [rounds_succ]
        split at h
        · rename_i s2 hx
          refine ihx _ _ _ _ _ _ _ hok hx e1 fun g' a' w' e' => ?_
          exact ihn.2 _ _ _ _ _ _ _ _ hok h e' hQ
        · rename_i r hne
          refine ihx _ _ _ _ _ _ _ hok h e1 fun g' a' w' e' => ?_
          cases out with
          | fall => exact absurd h (hne _)
          | exit i => exact hQ _ _ _ e'
          | ret => exact hQ _ _ _ e'
      · cases h
    refine (fun q => ⟨q, fun c => lo c (q c)⟩) ?_
    intro c
    induction c with
    | skip =>
      intro s s' out g a w Q hok h e hQ
      cases h
      exact wp_skip (hQ _ _ _ e)
    | label l =>
      intro s s' out g a w Q hok h e hQ
      cases h
      exact wp_label (hQ _ _ _ e)
    | region id ops draw =>
      intro s s' out g a w Q hok h e hQ
      replace h : evCodeA ⟨E, gen, call, base, nt, nx0, vis, H⟩ (evCode ⟨E, gen, call, base, nt, nx0, vis, H⟩ n) (.region id ops draw) s = some (out, s') := h
      simp only [evCodeA] at h
      split at h
      · rename_i s2 us hr
        split at h
        · rename_i ht
          have go : ∀ {Q' : Exit → Act → World → Prop}, (∀ g' a' w', Ent E B base nt nx0 vis g0 w0 ob0 rt0 s2 g' a' w' → Q' .normal a' w') → Goes E B (base + 16384) nt s g w s2 (Q' .normal) := fun hQ' a' w' g' c' e' =>
            hQ' g' a' w' ⟨c', e.ext.trans (e'.mono (Nat.le_add_right ..))⟩
          split at h
          · rename_i hd
            subst hd
            split at h
            · rename_i l hl
              split at h
              · rename_i hap
                cases h
                simp only [codeOk] at hok
                try simp only at hl
                rw [hl] at hok
                exact region_ok hm hcall hnt hok e.cur hr hap (go hQ)
              · cases h
            · cases h
          · rename_i hd
            obtain rfl : draw = false := by simpa using hd
            cases h
            exact wp_region_list (rows_ok hcall hnt e.cur hr (go hQ))
        · cases h
      · cases h
    | seq x y ihx ihy =>
      intro s s' out g a w Q hok h e hQ
      simp only [codeOk, Bool.and_eq_true] at hok
      replace h : evCodeA ⟨E, gen, call, base, nt, nx0, vis, H⟩ (evCode ⟨E, gen, call, base, nt, nx0, vis, H⟩ n) (.seq x y) s = some (out, s') := h
      simp only [evCodeA] at h
      split at h
      · rename_i s2 hx
        split at h
        · rename_i s3 hj
          refine wp_seq (ihx _ _ _ _ _ _ _ hok.1 hx e fun g' a' w' e' => ?_)
          obtain ⟨g1, e1⟩ := atJoin_ok hv mem0 e' hj
          exact ihy _ _ _ _ _ _ _ hok.2 h e1 hQ
        · cases h
      · rename_i r hne
        refine wp_seq (ihx _ _ _ _ _ _ _ hok.1 h e fun g' a' w' e' => ?_)
        cases out with
        | fall => exact absurd h (hne _)
        | exit i => exact hQ _ _ _ e'
        | ret => exact hQ _ _ _ e'
    | cond c x y ihx ihy =>
      intro s s' out g a w Q hok h e hQ
      simp only [codeOk, Bool.and_eq_true] at hok
      replace h : evCodeA ⟨E, gen, call, base, nt, nx0, vis, H⟩ (evCode ⟨E, gen, call, base, nt, nx0, vis, H⟩ n) (.cond c x y) s = some (out, s') := h
      simp only [evCodeA] at h
      split at h
      · rename_i p t hc
        have hv : a.eval c = .bool t := valOf_eq (e.cur.cur.opd c) (by rw [hc]; rfl)
        cases t
        · exact wp_cond_false hv (ihy _ _ _ _ _ _ _ hok.2 h e hQ)
        · exact wp_cond_true hv (ihx _ _ _ _ _ _ _ hok.1 h e hQ)
      · cases h
    | block id x ihx =>
      intro s s' out g a w Q hok h e hQ
      replace h : evCodeA ⟨E, gen, call, base, nt, nx0, vis, H⟩ (evCode ⟨E, gen, call, base, nt, nx0, vis, H⟩ n) (.block id x) s = some (out, s') := h
      simp only [evCodeA] at h
      split at h
      · rename_i i s2 hx
        refine wp_block (ihx _ _ _ _ _ _ _ hok hx e fun g' a' w' e' => ?_)
        simp only [outE, Exit.inBlock]
        split at h
        · rename_i hi
          cases h
          rw [if_pos hi]
          exact hQ _ _ _ e'
        · rename_i hi
          cases h
          rw [if_neg hi]
          exact hQ _ _ _ e'
      · rename_i r hne
        refine wp_block (ihx _ _ _ _ _ _ _ hok h e fun g' a' w' e' => ?_)
        cases out with
        | fall => exact hQ _ _ _ e'
        | exit i => exact absurd h (hne _ _)
        | ret => exact hQ _ _ _ e'
    | scope x ihx =>
      intro s s' out g a w Q hok h e hQ
      exact wp_scope_straight (ihx s s' out g a w (Exit.noGoto Q) hok h e fun g' a' w' e' => by cases out <;> exact hQ _ _ _ e')
    | loop x ihx =>
      intro s s' out g a w Q hok h e hQ
      exact wp_loop_rounds (n + 1) (lo x ihx s s' out g a w Q hok h e hQ)
    | exit id =>
      intro s s' out g a w Q hok h e hQ
      cases h
      exact wp_exit (hQ _ _ _ e)
    | ret =>
      intro s s' out g a w Q hok h e hQ
      cases h
      exact wp_ret (hQ _ _ _ e)
    | _ => intro s s' out g a w Q hok h; cases h
end
end Go.Proofs.YtjhljcnjafbkfaaDoor.X
end
section
set_option linter.unusedVariables false
namespace Go.Proofs.YtjhljcnjafbkfaaDoor.X
open Go.RowKit
section
variable {E : Env} {B : Blk} {base nx0 : Nat} {vis : List Nat} {g g0 : Gh} {w w0 : World} {ob ob0 F : ObF} {rt rt0 : RtF} {nx : Nat}
mutual
theorem refsC_at {c : CV} {f : FuncId} {cs : List CV} (h : c = .cl f cs) : refsC c = refsL cs := by subst h; rfl
end
theorem refsL_at : ∀ {cs : List CV} {j : Nat} {x : CV} {o : Nat}, cs[j]? = some x → o ∈ refsC x → o ∈ refsL cs
  | [], j, x, o, h, _ => by simp at h
  | c :: cs, j, x, o, h, ho => by
    simp only [refsL, List.mem_append]
    cases j with
    | zero => simp at h; subst h; exact .inl ho
    | succ j => exact .inr (refsL_at (by simpa using h) ho)
theorem RelC.sub {v : Value} {c : CV} (h : RelC g w ob rt nx v c) : (∀ o ∈ refsC c, F o = ob o) → RelC g w F rt nx v c := by
  induction h with
  | p k => exact fun _ => .p k
  | p0 k => exact fun _ => .p0 k
  | pn h0 h1 k hg => exact fun _ => .pn h0 h1 k hg
  | pt k => exact fun h => .pt ((h _ (by simp [refsC])).trans k)
  | pr k => exact fun h => .pr ((h _ (by simp [refsC])).trans k)
  | mt k => exact fun h => .mt ((h _ (by simp [refsC])).trans k)
  | vw k h1 h2 h3 h4 h5 h6 => exact fun h => .vw ((h _ (by simp [refsC])).trans k) h1 h2 h3 h4 h5 h6
  | cl hl _ ih => exact fun h => .cl hl fun j x v hx hv => ih j x v hx hv fun o ho => h o (by simp only [refsC]; exact refsL_at hx ho)
theorem RelM.cut {G : Nat → Option (List PV)} (h : RelM G g w ob rt nx B) (hc : ∀ o cs, o < base → ob o = some (.var cs) → ∀ q ∈ refsL cs, q < base) :
    RelM G g w (fun o => if o < base then ob o else none) rt nx B := by
  have hs : ∀ o x, (if o < base then ob o else none) = some x → o < base ∧ ob o = some x := fun o x hx => by
    split at hx
    · exact ⟨by assumption, hx⟩
    · cases hx
  refine ⟨h.pos, h.glob, h.size, fun o x hx => ?_, fun o o' x y hx hy sx sy hφ => ?_, fun n n0 hn ht => ?_, h.apart, h.bnd⟩
  · obtain ⟨hb, hx⟩ := hs o x hx
    obtain ⟨k, hB⟩ := h.obj o x hx
    refine ⟨?_, hB⟩
    cases k with
    | nil => exact .nil
    | mp h1 h2 => exact .mp h1 h2
    | arr e vs q1 q2 q3 q4 q5 q6 q7 => exact .arr e vs q1 q2 q3 q4 q5 q6 q7
    | var e vs q1 q2 q3 => exact .var e vs q1 ⟨q2.1, fun j x v hj hv => (q2.2 j x v hj hv).sub fun o' ho' => if_pos (hc o _ hb hx o' (refsL_at hj ho'))⟩ q3
  · exact h.inj o o' x y (hs o x hx).2 (hs o' y hy).2 sx sy hφ
  · cases h.own n n0 hn ht with
    | full A k z q1 q2 => exact .full A k z q1 q2
    | own b' len cap z ee cur q1 q2 q3 q4 q5 q6 q7 q8 q9 =>
      exact .own b' len cap z ee cur q1 q2 q3 q4 q5 q6 q7 q8 fun o x hx hs' => q9 o x (hs o x hx).2 hs'
end
end Go.Proofs.YtjhljcnjafbkfaaDoor.X
end
section
set_option linter.unusedVariables false
namespace Go.Proofs.YtjhljcnjafbkfaaDoor.X
open Go.RowKit
section
variable {E : Env} {B : Blk} {base nt nx0 : Nat} {vis : List Nat} {g g0 : Gh} {w w0 : World} {ob ob0 F : ObF} {rt rt0 : RtF} {nx : Nat}
theorem sem_bind_pure {α : Type} : ∀ (x : Sem α), x.bind Sem.pure = x := by
  intro x
  induction x <;> simp_all [Sem.bind]
  rename_i h
  funext b
  cases b
  · exact h.1
  · exact h.2
theorem sem_bind_assoc {α β γ : Type} (x : Sem α) (f : α → Sem β) (h : β → Sem γ) : (x.bind f).bind h = x.bind fun a => (f a).bind h := by
  induction x <;> simp_all [Sem.bind]
  rename_i q
  funext b
  cases b
  · exact q.1
  · exact q.2
instance : LawfulMonad Sem := LawfulMonad.mk' Sem (fun x => sem_bind_pure x) (fun _ _ => rfl) (fun x f h => sem_bind_assoc x f h)
theorem mapM_run {α β : Type} {f : α → Sem β} {P : Program} {w : World} {as : Array α} {vs : List β} (hl : vs.length = as.size) (hf : ∀ (i : Nat) (a : α) (v : β), as[i]? = some a → vs[i]? = some v → (f a).run P w = Result.ok v w) :
    (as.mapM f).run P w = Result.ok vs.toArray w := by
  have key : ∀ (l : List α) (us : List β) (bs : Array β), us.length = l.length → (∀ (i : Nat) (a : α) (v : β), l[i]? = some a → us[i]? = some v → (f a).run P w = Result.ok v w) →
      (l.foldlM (fun bs a => bs.push <$> f a) bs).run P w = Result.ok (bs ++ us.toArray) w := by
    intro l
    induction l with
    | nil =>
      intro us bs h _
      obtain rfl := List.eq_nil_of_length_eq_zero h
      simp
    | cons a l ih =>
      intro us bs h hf
      cases us with
      | nil => simp at h
      | cons u us =>
        have h1 := hf 0 a u rfl rfl
        have h2 := ih us (bs.push u) (by simpa using h) fun i a v ha hv => hf (i + 1) a v (by simpa using ha) (by simpa using hv)
        rw [List.foldlM_cons, Sem.run_bind, map_eq_pure_bind, Sem.run_bind, h1, Result.andThen_ok, Sem.run_pure, Result.andThen_ok, h2]
        simp
  rw [Array.mapM_eq_foldlM, ← Array.foldlM_toList]
  rw [key as.toList vs #[] (by simpa using hl) (fun i a v ha hv => hf i a v (by simpa using ha) hv)]
  simp
theorem res1_ok {s : St} {a : Act} (c : Cur E B (base + 16384) s g a w) {r : ResultVar} (hn : resAT1 E s r ≠ .no) :
    ∃ v, (match r with
      | .tmp t => pure (a.tmps.getD t undef)
      | .cell q t => do loadVar t (← asAddr (a.tmps.getD q undef)) : Sem Value).run E.P w = .ok v w ∧ RelA g w s.ob s.rt s.nx v (resAT1 E s r) := by
  cases r with
  | tmp t => exact ⟨_, by simp only [Sem.run_pure]; rfl, c.tm t⟩
  | cell q t =>
    have hd : resAT1 E s (.cell q t) = match s.tm q, E.T t with
      | .one (.pt o off), some ti => match s.ob o with
        | some (.var cs) => (partOf cs off ti.sz ti.agg).getD .no
        | _ => .no
      | _, _ => .no := rfl
    rw [hd] at hn ⊢
    have hq := c.tm q
    split at hn
    · rename_i o off ti h1 hT
      split at hn
      · rename_i cs hob
        cases hp : partOf cs off ti.sz ti.agg with
        | none => rw [hp] at hn; exact absurd rfl hn
        | some x =>
          simp only [h1] at hq
          have h2 := one_rep hq
          generalize hv : a.eval (.tmp q) = vq at h2
          cases h2 with
          | pt k =>
            cases (c.mem.obj o _ hob).1 with
            | var e vs hh hr hI =>
              obtain ⟨v, hv', hr'⟩ := load_part hT (b := g.φ o) (o := 0) (off := off) hr (fun j _ => by rw [Nat.zero_add]; exact row_cells hh j) hp
              refine ⟨v, ?_, ?_⟩
              · simp only [Act.eval] at hv
                rw [Nat.zero_add] at hv'
                show (do loadVar t (← asAddr (a.tmps.getD q undef)) : Sem Value).run E.P w = _
                rw [hv]
                exact hv'
              · exact hr'
      · exact absurd rfl hn
    · exact absurd rfl hn
theorem results_ok {s : St} {a : Act} (c : Cur E B (base + 16384) s g a w) {fn : Func} (hn : ∀ x ∈ fn.results.toList.map (resAT1 E s), x ≠ .no) :
    ∃ v, (results fn a.tmps).run E.P w = .ok v w ∧ ResRel g w s.ob s.rt s.nx v (fn.results.toList.map (resAT1 E s)) := by
  have pick : ∀ (l : List ResultVar), (∀ x ∈ l.map (resAT1 E s), x ≠ .no) → ∃ vs : List Value, vs.length = l.length ∧ ∀ (i : Nat) (r : ResultVar) (v : Value), l[i]? = some r → vs[i]? = some v →
      (match r with
      | .tmp t => pure (a.tmps.getD t undef)
      | .cell q t => do loadVar t (← asAddr (a.tmps.getD q undef)) : Sem Value).run E.P w = .ok v w ∧ RelA g w s.ob s.rt s.nx v (resAT1 E s r) := by
    intro l
    induction l with
    | nil => exact fun _ => ⟨[], rfl, fun i r v h => by simp at h⟩
    | cons r l ih =>
      intro h
      obtain ⟨vs, h1, h2⟩ := ih fun x hx => h x (by simp only [List.map_cons]; exact List.mem_cons_of_mem _ hx)
      obtain ⟨v, h3, h4⟩ := res1_ok c (h _ (by simp only [List.map_cons]; exact List.mem_cons_self ..))
      refine ⟨v :: vs, by simp [h1], fun i r' v' hr hv => ?_⟩
      cases i with
      | zero => simp at hr hv; subst hr; subst hv; exact ⟨h3, h4⟩
      | succ i => exact h2 i r' v' (by simpa using hr) (by simpa using hv)
  obtain ⟨vs, h1, h2⟩ := pick _ hn
  have h3 := mapM_run (P := E.P) (w := w) (as := fn.results) (vs := vs) (f := fun r => (match r with
      | .tmp t => pure (a.tmps.getD t undef)
      | .cell q t => do loadVar t (← asAddr (a.tmps.getD q undef)) : Sem Value)) (by simpa using h1) fun i r v hr hv => (h2 i r v (by simpa using hr) hv).1
  have rel : RelAs g w s.ob s.rt s.nx vs (fn.results.toList.map (resAT1 E s)) := ⟨by simpa using h1, fun i x v hx hv => by
    simp only [List.getElem?_map, Option.map_eq_some_iff] at hx
    obtain ⟨r, hr, rfl⟩ := hx
    exact (h2 i r v hr hv).2⟩
  refine ⟨if h : vs.toArray.size = 1 then vs.toArray[0] else .tuple vs.toArray, ?_, ?_⟩
  · unfold results
    rw [Sem.run_bind]
    exact (congrArg (fun r : Result (Array Value) => r.andThen fun vs w' => (pure (if h : vs.size = 1 then vs[0] else .tuple vs) : Sem Value).run E.P w') h3).trans rfl
  · generalize hl : fn.results.toList.map (resAT1 E s) = xs at rel
    match xs, vs, rel with
    | [x], [v], rel => exact rel.2 0 x v rfl rfl
    | [], [], rel => exact ⟨#[], rfl, rel⟩
    | x :: y :: l, u :: v :: us, rel => exact ⟨(u :: v :: us).toArray, by simp, rel⟩
    | [], _ :: _, rel => simp [RelAs] at rel
    | [_], [], rel => simp [RelAs] at rel
    | [_], _ :: _ :: _, rel => simp [RelAs] at rel
    | _ :: _ :: _, [], rel => simp [RelAs] at rel
    | _ :: _ :: _, [_], rel => simp [RelAs] at rel
def endsC (base : Nat) (l : List Nat) : List Nat := l.filter (base ≤ ·)
theorem backC_ok {G : Nat → Option (List PV)} (h : RelM G g w ob rt nx B) {g' : Gh} {ob' : ObF} (hI : ∀ b i, g.I b i → g'.I b i) {v : Value} {c c' : CV} (k : RelC g w ob rt nx v c) (k' : RelC g' w ob' rt nx v c)
    (hs : ∀ o ∈ seenC c, base ≤ o → ∀ fz z rows, ob o = some (.arr fz z rows) → ∀ i, i < rows.length * z → g'.I (g.φ o) i) (hF : ∀ o, o < base → F o = ob' o) (hb : backC base ob c = some c') : RelC g' w F rt nx v c' := by
  cases c with
  | p u x => simp only [backC, Option.some.injEq] at hb; subst hb; exact k'.sub fun o ho => by simp [refsC] at ho
  | pt o off =>
    simp only [backC] at hb
    split at hb
    · rename_i hlt
      cases hb
      exact k'.sub fun q hq => by simp [refsC] at hq; subst hq; exact hF _ hlt
    · cases hb
  | pr o r off =>
    simp only [backC] at hb
    split at hb
    · rename_i hlt
      cases hb
      exact k'.sub fun q hq => by simp [refsC] at hq; subst hq; exact hF _ hlt
    · cases hb
  | vw o lo n =>
    simp only [backC] at hb
    split at hb
    · rename_i hlt
      cases hb
      exact k'.sub fun q hq => by simp [refsC] at hq; subst hq; exact hF _ hlt
    · rename_i hlt
      simp only [Option.map_eq_some_iff] at hb
      obtain ⟨x, hx, rfl⟩ := hb
      exact .p (k.seen h hx hI fun q hq => hs q hq (by simp [seenC] at hq; omega))
  | mt o =>
    simp only [backC] at hb
    split at hb
    · rename_i hlt
      cases hb
      exact k'.sub fun q hq => by simp [refsC] at hq; subst hq; exact hF _ hlt
    · cases hb
  | cl f cs =>
    simp only [backC] at hb
    split at hb
    · rename_i hlt
      cases hb
      exact k'.sub fun q hq => hF _ (by simpa using List.all_eq_true.1 hlt q hq)
    · cases hb
theorem backL_ok {G : Nat → Option (List PV)} (h : RelM G g w ob rt nx B) {g' : Gh} {ob' : ObF} (hI : ∀ b i, g.I b i → g'.I b i) (hF : ∀ o, o < base → F o = ob' o) : ∀ {cs cs' : List CV} {vs : List Value}, vs.length = cs.length →
    (∀ (j : Nat) (x : CV) (v : Value), cs[j]? = some x → vs[j]? = some v → RelC g w ob rt nx v x ∧ RelC g' w ob' rt nx v x) →
    (∀ o ∈ cs.flatMap seenC, base ≤ o → ∀ fz z rows, ob o = some (.arr fz z rows) → ∀ i, i < rows.length * z → g'.I (g.φ o) i) → backL base ob cs = some cs' →
    cs'.length = cs.length ∧ ∀ (j : Nat) (x : CV) (v : Value), cs'[j]? = some x → vs[j]? = some v → RelC g' w F rt nx v x
  | [], cs', vs, hl, hk, hs, hb => by
    simp only [backL, Option.some.injEq] at hb
    subst hb
    exact ⟨rfl, fun j x v hx => by simp at hx⟩
  | c :: cs, cs', [], hl, hk, hs, hb => by simp at hl
  | c :: cs, cs', v :: vs, hl, hk, hs, hb => by
    simp only [backL] at hb
    split at hb
    · rename_i x xs hx hxs
      cases hb
      obtain ⟨k1, k2⟩ := hk 0 c v rfl rfl
      have h1 := backC_ok (F := F) h hI k1 k2 (fun o ho => hs o (by simp only [List.flatMap_cons, List.mem_append]; exact .inl ho)) hF hx
      obtain ⟨h2, h3⟩ := backL_ok h hI hF (by simpa using hl) (fun j x v hx hv => hk (j + 1) x v (by simpa using hx) (by simpa using hv)) (fun o ho => hs o (by simp only [List.flatMap_cons, List.mem_append]; exact .inr ho)) hxs
      refine ⟨by simp [h2], fun j y u hy hu => ?_⟩
      cases j with
      | zero => simp at hy hu; subst hy; subst hu; exact h1
      | succ j => exact h3 j y u (by simpa using hy) (by simpa using hu)
    · cases hb
theorem backT_ok {G : Nat → Option (List PV)} (h : RelM G g w ob rt nx B) {g' : Gh} {ob' : ObF} (hI : ∀ b i, g.I b i → g'.I b i) (hF : ∀ o, o < base → F o = ob' o) {x x' : AT} {v : Value} (k : RelA g w ob rt nx v x) (k' : RelA g' w ob' rt nx v x)
    (hs : ∀ o ∈ seenT x, base ≤ o → ∀ fz z rows, ob o = some (.arr fz z rows) → ∀ i, i < rows.length * z → g'.I (g.φ o) i) (hb : backT base ob x = some x') : RelA g' w F rt nx v x' := by
  cases k with
  | tup => simp [backT] at hb
  | of k =>
    cases k with
    | no => simp [backT] at hb
    | one k =>
      simp only [backT, Option.map_eq_some_iff] at hb
      obtain ⟨y, hy, rfl⟩ := hb
      exact .of (.one (backC_ok h hI k (one_rep k') hs hF hy))
    | agg k =>
      rename_i vs cs
      simp only [backT, Option.map_eq_some_iff] at hb
      obtain ⟨y, hy, rfl⟩ := hb
      cases k' with
      | of k' =>
        cases k' with
        | agg k' =>
          obtain ⟨h1, h2⟩ := backL_ok (vs := vs.toList) h hI hF (by simpa using k.1) (fun j x v hx hv => ⟨k.2 j x v hx (by simpa using hv), k'.2 j x v hx (by simpa using hv)⟩) hs hy
          exact .of (.agg ⟨k.1.trans h1.symm, fun j x v hx hv => h2 j x v hx (by simpa using hv)⟩)
theorem backAll_at : ∀ {l rs : List AT}, backAll base ob l = some rs → rs.length = l.length ∧ ∀ (i : Nat) (x y : AT), l[i]? = some x → rs[i]? = some y → backT base ob x = some y
  | [], rs, h => by
    simp only [backAll, Option.some.injEq] at h
    subst h
    exact ⟨rfl, fun i x y hx => by simp at hx⟩
  | a :: l, rs, h => by
    simp only [backAll] at h
    split at h
    · rename_i y ys hy hys
      cases h
      obtain ⟨h1, h2⟩ := backAll_at hys
      refine ⟨by simp [h1], fun i x t hx ht => ?_⟩
      cases i with
      | zero => simp at hx ht; subst hx; subst ht; exact hy
      | succ i => exact h2 i x t (by simpa using hx) (by simpa using ht)
    · cases h
theorem putAll_icy_other {l : List Nat} {o : Nat} (h : o ∉ l) : putAll ob (icy ob l) o = ob o := by
  unfold putAll
  refine foldl_ob fun p hp e => ?_
  unfold icy at hp
  obtain ⟨q, hq, hq'⟩ := List.mem_filterMap.1 hp
  split at hq'
  · cases hq'
    exact h (e ▸ hq)
  · cases hq'
end
end Go.Proofs.YtjhljcnjafbkfaaDoor.X
end
section
set_option linter.unusedVariables false
namespace Go.Proofs.YtjhljcnjafbkfaaDoor.X
open Go.RowKit
section
variable {E : Env} {gen : FuncId → Nat → Bool} {H : FuncId → Hint} {call : CallF} {base : Nat}
theorem ResRel.vals {g : Gh} {w : World} {ob : ObF} {rt : RtF} {nx : Nat} {v : Value} {l : List AT} (h : ResRel g w ob rt nx v l) :
    ∃ vs : List Value, RelAs g w ob rt nx vs l ∧ ∀ (g' : Gh) (w' : World) (ob' : ObF) (rt' : RtF) (nx' : Nat) (rs : List AT), RelAs g' w' ob' rt' nx' vs rs → ResRel g' w' ob' rt' nx' v rs := by
  have key : (∃ vs : Array Value, v = .tuple vs ∧ RelAs g w ob rt nx vs.toList l) → l.length ≠ 1 → ∃ vs : List Value, RelAs g w ob rt nx vs l ∧ ∀ (g' : Gh) (w' : World) (ob' : ObF) (rt' : RtF) (nx' : Nat) (rs : List AT), RelAs g' w' ob' rt' nx' vs rs → ResRel g' w' ob' rt' nx' v rs := by
    rintro ⟨vs, rfl, hq⟩ hl
    refine ⟨vs.toList, hq, fun g' w' ob' rt' nx' rs hr => ?_⟩
    have e := hr.1.symm.trans hq.1
    match rs, e, hr with
    | [], _, hr => exact ⟨vs, rfl, hr⟩
    | [x], e, hr => exact absurd e.symm hl
    | _ :: _ :: _, _, hr => exact ⟨vs, rfl, hr⟩
  match l, h with
  | [x], h =>
    refine ⟨[v], ⟨rfl, fun i y u hy hu => ?_⟩, fun g' w' ob' rt' nx' rs hr => ?_⟩
    · cases i with
      | zero => simp at hy hu; subst hy; subst hu; exact h
      | succ i => simp at hy
    · match rs, hr with
      | [y], hr => exact hr.2 0 y v rfl rfl
      | [], hr => have := hr.1; simp at this
      | _ :: _ :: _, hr => have := hr.1; simp at this
  | [], h => exact key h (by simp)
  | _ :: _ :: _, h => exact key h (by simp)
theorem leave_ok {B : Blk} {nx0 nx' : Nat} {g0 g : Gh} {w0 w : World} {ob0 ob' : ObF} {rt0 rt' : RtF} {s : St} (hm : RelM E.G g w s.ob s.rt s.nx B) (h0 : 0 < nx0) (he : Ext B base g0 w0 ob0 rt0 nx0 g w s.ob s.rt s.nx) {rs0 rs : List AT} {v : Value}
    (hres : ResRel g w s.ob s.rt s.nx v rs0) (h : leave base nx0 s rs0 = some (rs, ob', rt', nx')) :
    ∃ g', Ext B base g0 w0 ob0 rt0 nx0 g' w ob' rt' nx' ∧ RelM E.G g' w ob' rt' nx' B ∧ (∀ o, (ob' o).isSome → o < base + 4) ∧ ResRel g' w ob' rt' nx' v rs := by
  obtain ⟨vs, hvs, hmk⟩ := hres.vals
  unfold leave at h
  split at h
  · rename_i s1 hh
    simp only at h
    split at h
    · rename_i hc
      obtain ⟨hnd, hlen, _⟩ := hc
      simp only [Option.some.injEq, Prod.mk.injEq] at h
      obtain ⟨rfl, rfl, rfl, rfl⟩ := h
      obtain ⟨γ2, β2, a1, a2, a3, a4, a5, a6, a7, a8, a9⟩ := head_core (base := base) (nx0 := nx0) (vis := List.range base) (s := ⟨initTm rs0 0, s.ob, s.rt, s.nx⟩) (ev := fun t => vs.getD t undef) hm h0 he.nx (fun t => by
        simp only [initTm_at, Nat.zero_le, if_true, Nat.sub_zero]
        by_cases ht : t < rs0.length
        · have h1 : rs0[t]? = some rs0[t] := List.getElem?_eq_getElem ht
          have htv : t < vs.length := by rw [hvs.1]; exact ht
          have h2 : vs[t]? = some vs[t] := List.getElem?_eq_getElem htv
          simp only [List.getD_eq_getElem?_getD, h1, h2, Option.getD_some]
          exact hvs.2 t _ _ h1 h2
        · simp only [List.getD_eq_getElem?_getD, List.getElem?_eq_none (Nat.le_of_not_lt ht), Option.getD_none]
          exact .of .no) (fun o _ ho => List.mem_range.2 ho) hh
      simp only [map_init rs0 (coldT s.ob)] at a4 a7 a8
      generalize hL : List.range base ++ ((seeO s.ob (rs0.map (coldT s.ob)) (List.range base)).filter fun o => decide (base ≤ o)).reverse = L at hnd hlen ⊢
      have hn1 := noDup_iff hnd
      have hall : ∀ o, (s1.ob o).isSome → o ∈ L := fun o ho => by
        rw [← hL]
        rcases Nat.lt_or_ge o base with hb | hb
        · exact List.mem_append_left _ (List.mem_range.2 hb)
        · exact List.mem_append_right _ (List.mem_reverse.2 (List.mem_filter.2 ⟨a8 o ho, by simpa using hb⟩))
      have hlow : ∀ o, o < base → L[o]? = some o := fun o ho => by
        rw [← hL, List.getElem?_append_left (by simpa using ho)]
        simp [ho]
      have hM := RelM.take (U := B) a1 hn1 hall hm.size (fun o x hx hs => (a1.obj o x hx).2 hs) (fun n n0 hn ht b hb => ((a1.own n n0 hn ht).lt hb).2)
      refine ⟨tk ⟨g.I, g.φ, γ2, β2⟩ L, ⟨he.below, he.I, he.old, he.cell, fun o x ho hx => ?_, fun o ho hs => ?_, fun n hn ht => ?_, a6⟩, hM, fun i hi => ?_, hmk _ _ _ _ _ _ ⟨by rw [hvs.1]; simp, fun i y u hy hu => ?_⟩⟩
      · obtain ⟨y, hy, l⟩ := he.like o x ho hx
        obtain ⟨z, hz, l'⟩ := a4 o y hy (.inl ho)
        exact ⟨renO (posIn L) 0 z, by rw [takeO_at, hlow o ho]; simp [hz], (l.trans l').trans (renO_like z)⟩
      · rw [← he.φ o ho hs]
        show g.φ (L.getD o 0) = g.φ o
        rw [List.getD_eq_getElem?_getD, hlow o ho]
        rfl
      · obtain ⟨h1, h2⟩ := a5 n hn ht
        obtain ⟨h3, h4⟩ := he.rt n hn h1
        exact ⟨h3, h2.trans h4⟩
      · rw [takeO_at] at hi
        rcases Nat.lt_or_ge i L.length with h | h
        · omega
        · rw [List.getElem?_eq_none h] at hi; cases hi
      · simp only [List.getElem?_map, Option.map_eq_some_iff] at hy
        obtain ⟨j, hj, rfl⟩ := hy
        obtain ⟨_, hji⟩ := List.getElem?_eq_some_iff.1 hj
        simp at hji
        subst hji
        have := RelA.ren (fun k => take_rel hn1 hall k) (a2 i)
        rw [List.getD_eq_getElem?_getD, hu] at this
        exact this
    · cases h
  · cases h
theorem back_ok {B : Blk} {nx0 nx' : Nat} {g0 g : Gh} {w0 w : World} {ob0 ob' : ObF} {rt0 rt' : RtF} {s : St} (hm : RelM E.G g w s.ob s.rt s.nx B) (hlab : ∀ o, (s.ob o).isSome → o < base + 16384) (he : Ext B base g0 w0 ob0 rt0 nx0 g w s.ob s.rt s.nx) {rs0 rs : List AT} {v : Value}
    (hrel : ResRel g w s.ob s.rt s.nx v rs0) (hr : (if (List.range base).all (cleanO base s.ob) then (backAll base s.ob rs0).map fun rs => (rs, obH base s.ob, s.rt, s.nx) else none) = some (rs, ob', rt', nx')) :
    ∃ g', Ext B base g0 w0 ob0 rt0 nx0 g' w ob' rt' nx' ∧ RelM E.G g' w ob' rt' nx' B ∧ (∀ o, (ob' o).isSome → o < base) ∧ ResRel g' w ob' rt' nx' v rs := by
  split at hr
  · rename_i hclean
    simp only [Option.map_eq_some_iff, Prod.mk.injEq] at hr
    obtain ⟨rs', hrs, rfl, rfl, rfl, rfl⟩ := hr
    obtain ⟨hb1, hb2⟩ := backAll_at hrs
    obtain ⟨g2, x1, x2, x3, x4, x5⟩ := icy_all (endsC base (rs0.flatMap seenT)) hm hlab
    have hends : ∀ o, o < base → o ∉ endsC base (rs0.flatMap seenT) := fun o ho hm => by
      have := (List.mem_filter.1 hm).2
      simp at this
      omega
    have hFe : ∀ o, o < base → (obH base s.ob) o = putAll s.ob (icy s.ob (endsC base (rs0.flatMap seenT))) o := fun o ho => by
      rw [putAll_icy_other (hends o ho)]
      simp only [obH, if_pos ho]
    have hcut : (fun o => if o < base then putAll s.ob (icy s.ob (endsC base (rs0.flatMap seenT))) o else none : ObF) = fun o => if o < base then s.ob o else none := by
      funext o
      split
      · rename_i ho; rw [putAll_icy_other (hends o ho)]
      · rfl
    have hrefs : ∀ o cs, o < base → putAll s.ob (icy s.ob (endsC base (rs0.flatMap seenT))) o = some (.var cs) → ∀ q ∈ refsL cs, q < base := fun o cs ho hcs q hq => by
      rw [putAll_icy_other (hends o ho)] at hcs
      have := List.all_eq_true.1 hclean o (List.mem_range.2 ho)
      simp only [cleanO, hcs] at this
      simpa using List.all_eq_true.1 this q hq
    have hmem := x2.cut hrefs
    rw [hcut] at hmem
    have hlab' : ∀ o, ((obH base s.ob) o).isSome → o < base := fun o ho => by
      simp only [obH] at ho
      split at ho
      · assumption
      · cases ho
    have hres : ResRel g2 w (obH base s.ob) s.rt s.nx v rs' := hrel.map hb1 fun i x y u hx hy hu => by
      refine backT_ok hm x1.I hFe hu (hu.ext x1 hlab) (fun o ho hbo => x5 o (List.mem_filter.2 ⟨List.mem_flatMap.2 ⟨x, List.mem_of_getElem? hx, ho⟩, by simpa using hbo⟩)) (hb2 i x y hx hy)
    have hext : Ext B base g0 w0 ob0 rt0 nx0 g2 w (obH base s.ob) s.rt s.nx := by
      have k := he.trans (x1.mono (Nat.le_add_right ..))
      refine ⟨k.below, k.I, k.old, k.cell, fun o x ho hx => ?_, k.φ, k.rt, k.nx⟩
      obtain ⟨y, hy, l⟩ := he.like o x ho hx
      exact ⟨y, by simp only [obH, if_pos ho]; exact hy, l⟩
    exact ⟨g2, hext, hmem, hlab', hres⟩
  · cases hr
theorem fn_ok (hm : E.P.follows .mixedOrders = true) (hcall : CallOk E call) {n : Nat} {mv : Bool} {f : FuncId} {fn : Func} (hf : E.P.funcs[f]? = some fn) (hok : ∀ c, fn.body = some c → codeOk (H f).pairs c = true)
    {args : List AT} {ob ob' : ObF} {rt rt' : RtF} {nx nx' : Nat} {rs : List AT} (h : evFn E gen H call n base mv f fn args ob rt nx = some (rs, ob', rt', nx')) :
    ∀ (g : Gh) (w : World) (B : Blk) (vals : Array Value), RelM E.G g w ob rt nx B → (∀ o, (ob o).isSome → o < base) → RelAs g w ob rt nx vals.toList args →
    Calls E.P f vals w fun e w' => ∃ v g', e = .returned v ∧ Ext B base g w ob rt nx g' w' ob' rt' nx' ∧ RelM E.G g' w' ob' rt' nx' B ∧ (∀ o, (ob' o).isSome → o < lastN mv base) ∧ ResRel g' w' ob' rt' nx' v rs := by
  unfold evFn at h
  split at h
  · rename_i c hb
    split at h
    · rename_i hnt
      -- however the text ends
      have key : ∀ (s : St) (out : Out), evCode ⟨E, gen f, call, base, fn.ntmps, nx, List.range base, H f⟩ n c ⟨initTm args 0, ob, rt, nx⟩ = some (out, s) → (out = .fall ∨ out = .ret) →
          (if mv then leave base nx s (fn.results.toList.map (resAT1 E s)) else if (List.range base).all (cleanO base s.ob) then (backAll base s.ob (fn.results.toList.map (resAT1 E s))).map fun rs => (rs, obH base s.ob, s.rt, s.nx) else none) = some (rs, ob', rt', nx') →
          ∀ (g : Gh) (w : World) (B : Blk) (vals : Array Value), RelM E.G g w ob rt nx B → (∀ o, (ob o).isSome → o < base) → RelAs g w ob rt nx vals.toList args →
          Calls E.P f vals w fun e w' => ∃ v g', e = .returned v ∧ Ext B base g w ob rt nx g' w' ob' rt' nx' ∧ RelM E.G g' w' ob' rt' nx' B ∧ (∀ o, (ob' o).isSome → o < lastN mv base) ∧ ResRel g' w' ob' rt' nx' v rs := by
        intro s out hc hout hr g w B vals hM hlab hargs
        have hsize : vals.size = args.length := by simpa using hargs.1
        refine calls_of_wp hf hb ?_
        have e0 : Ent E B base fn.ntmps nx (List.range base) g w ob rt ⟨initTm args 0, ob, rt, nx⟩ g { tmps := vals ++ Array.replicate (fn.ntmps - vals.size) undef, defers := [] } w := by
          refine ⟨⟨⟨hM, fun o ho => by have := hlab o ho; omega, fun t => ?_⟩, by simp; omega, rfl⟩, Ext.refl ..⟩
          simp only [initTm_at, Nat.zero_le, if_true, Nat.sub_zero]
          by_cases ht : LT.lt (α := Nat) t args.length
          · have htv : LT.lt (α := Nat) t vals.size := by rw [hsize]; exact ht
            have h1 : args[t]? = some args[t] := List.getElem?_eq_getElem ht
            have h2 : vals.toList[t]? = some (vals[t]'htv) := by rw [Array.getElem?_toList]; exact Array.getElem?_eq_getElem htv
            have := hargs.2 t _ _ h1 h2
            rw [List.getD_eq_getElem?_getD, h1]
            simp only [Act.eval, Array.getD_eq_getD_getElem?]
            rw [Array.getElem?_append_left htv, Array.getElem?_eq_getElem htv]
            exact this
          · rw [List.getD_eq_getElem?_getD, List.getElem?_eq_none (Nat.le_of_not_lt ht)]
            exact .of .no
        refine (code_ok hm hcall (Nat.le_trans hnt.2 (by decide)) (fun o ho => List.mem_range.2 ho) hM n).1 c _ s out g _ w _ (hok c hb) hc e0 fun g' a' w' e' => ?_
        -- the end
        have hn : ∀ x ∈ fn.results.toList.map (resAT1 E s), x ≠ .no := fun x hx hx0 => by
          obtain ⟨i, hi⟩ := List.mem_iff_getElem?.1 hx
          have hi' := (List.getElem?_eq_some_iff.1 hi).1
          split at hr
          · unfold leave at hr
            split at hr
            · rename_i hno
              simp only at hr
              split at hr
              · rename_i hcc
                have := List.all_eq_true.1 hcc.2.2 x hx
                rw [hx0] at this
                cases this
              · cases hr
            · cases hr
          · split at hr
            · simp only [Option.map_eq_some_iff, Prod.mk.injEq] at hr
              obtain ⟨rs', hrs, _⟩ := hr
              obtain ⟨hb1, hb2⟩ := backAll_at hrs
              have := hb2 i x _ hi (List.getElem?_eq_getElem (by omega))
              rw [hx0] at this
              cases this
            · cases hr
        obtain ⟨v, hv, hrel⟩ := results_ok e'.cur.cur hn
        have fin : ∃ g2, Ext B base g w ob rt nx g2 w' ob' rt' nx' ∧ RelM E.G g2 w' ob' rt' nx' B ∧ (∀ o, (ob' o).isSome → o < lastN mv base) ∧ ResRel g2 w' ob' rt' nx' v rs := by
          cases mv with
          | true => exact leave_ok e'.cur.cur.mem hM.pos e'.ext hrel hr
          | false => exact back_ok e'.cur.cur.mem e'.cur.cur.lab e'.ext hrel hr
        obtain ⟨g2, hext, hmem, hlab', hres⟩ := fin
        have post : bodyPost E.P fn (fun e w' => ∃ v g', e = .returned v ∧ Ext B base g w ob rt nx g' w' ob' rt' nx' ∧ RelM E.G g' w' ob' rt' nx' B ∧ (∀ o, (ob' o).isSome → o < lastN mv base) ∧
            ResRel g' w' ob' rt' nx' v rs) .ret a' w' := ⟨e'.cur.defers, v, hv, v, g2, rfl, hext, hmem, hlab', hres⟩
        rcases hout with rfl | rfl
        · exact post
        · exact post
      split at h
      · rename_i s hc
        exact key s _ hc (.inl rfl) h
      · rename_i s hc
        exact key s _ hc (.inr rfl) h
      · cases h
    · cases h
  · cases h
structure ProgOk (E : Env) (H : FuncId → Hint) : Prop where
  mixed : E.P.follows .mixedOrders = true
  code : ∀ f fn c, E.P.funcs[f]? = some fn → fn.body = some c → codeOk (H f).pairs c = true
  name : ∀ (f : Nat) (fn : Func), E.P.funcs[f]? = some fn → (fn.name == "runtime.NumGoroutine") = false
def RepAs (I : Nat → Nat → Prop) (w : World) (vs : List Value) (xs : List Arg) : Prop := vs.length = xs.length ∧ ∀ (i : Nat) (x : Arg) (v : Value), xs[i]? = some x → vs[i]? = some v → RepA I w v x
def ExtOk (E : Env) (ext : FuncId → Option (List Arg → Option (List Arg))) : Prop := ∀ f h xs rs, ext f = some h → h xs = some rs → Enters E.P f ∧
  ∀ (I : Nat → Nat → Prop) (w : World) (vals : Array Value), (∀ k cs, E.G k = some cs → RepP I w (.pointer (some ⟨k, 0, none⟩)) (.ref cs)) → (∀ b i, I b i → b < w.heap.size) → RepAs I w vals.toList xs →
    Calls E.P f vals w fun e w' => ∃ v I', e = .returned v ∧ Below w.heap.size w w' ∧ (∀ b i, b < w.heap.size → (I' b i ↔ I b i)) ∧ (∀ b i, I' b i → b < w'.heap.size) ∧ ResA I' w' v rs
theorem argOf_no {g : Gh} {w : World} {ob : ObF} {rt : RtF} {nx : Nat} {x : AT} {y : Arg} {v : Value} (k : RelA g w ob rt nx v x) (h : argOf noOb x = some y) : RepA g.I w v y := by
  have key : ∀ {c : CV} {z : PV} {v : Value}, RelC g w ob rt nx v c → pvC noOb c = some z → RepP g.I w v z := by
    intro c z v hc hz
    cases hc with
    | p k => cases hz; exact k
    | p0 k => cases hz; exact k
    | pn _ _ k => cases hz; exact k
    | vw => simp [pvC, noOb] at hz
    | _ => cases hz
  cases k with
  | tup => simp [argOf] at h
  | of k =>
    cases k with
    | no => simp [argOf] at h
    | one k =>
      simp only [argOf, Option.map_eq_some_iff] at h
      obtain ⟨z, hz, rfl⟩ := h
      exact key k hz
    | agg k =>
      rename_i vs cs
      simp only [argOf, Option.map_eq_some_iff] at h
      obtain ⟨zs, hz, rfl⟩ := h
      have at' : ∀ {cs : List CV} {zs : List PV}, pvL noOb cs = some zs → zs.length = cs.length ∧ ∀ (j : Nat) (c : CV) (z : PV), cs[j]? = some c → zs[j]? = some z → pvC noOb c = some z := by
        intro cs
        induction cs with
        | nil => intro zs h; simp only [pvL, Option.some.injEq] at h; subst h; exact ⟨rfl, fun j c z h => by simp at h⟩
        | cons c cs ih =>
          intro zs h
          simp only [pvL] at h
          split at h
          · rename_i x xs hx hxs
            cases h
            obtain ⟨h1, h2⟩ := ih hxs
            refine ⟨by simp [h1], fun j d z hd hz => ?_⟩
            cases j with
            | zero => simp at hd hz; subst hd; subst hz; exact hx
            | succ j => exact h2 j d z (by simpa using hd) (by simpa using hz)
          · cases h
      obtain ⟨h1, h2⟩ := at' hz
      refine ⟨vs, rfl, by rw [k.1, h1], fun j y u hy hu => ?_⟩
      have hj := (List.getElem?_eq_some_iff.1 hy).1
      have hc := List.getElem?_eq_getElem (l := cs) (i := j) (by omega)
      exact key (k.2 j _ u hc hu) (h2 j _ y hc hy)
theorem evF_ok {ext : FuncId → Option (List Arg → Option (List Arg))} (hP : ProgOk E H) (hX : ExtOk E ext) : ∀ n, CallOk E (evF E gen H ext n) := by
  intro n
  induction n with
  | zero => intro base mv f args ob rt nx rs ob' rt' nx' h; cases h
  | succ n ih =>
    intro base mv f args ob rt nx rs ob' rt' nx' h
    simp only [evF] at h
    split at h
    · rename_i h' hx
      split at h
      · rename_i xs hxs
        simp only [Option.map_eq_some_iff, Prod.mk.injEq] at h
        obtain ⟨rs0, hrs, rfl, rfl, rfl, rfl⟩ := h
        obtain ⟨he, hc⟩ := hX _ _ _ _ hx hrs
        refine ⟨he, fun g w B vals hM hlab hargs => ?_⟩
        obtain ⟨a1, a2⟩ := argsOf_at hxs
        have ha : RepAs g.I w vals.toList xs := ⟨hargs.1.trans a1.symm, fun i x v hx hv => by
          have hi := (List.getElem?_eq_some_iff.1 hx).1
          have hy := List.getElem?_eq_getElem (l := args) (i := i) (by omega)
          exact argOf_no (hargs.2 i _ v hy hv) (a2 i _ x hy hx)⟩
        refine (hc g.I w vals hM.glob hM.bnd ha).mono fun e w' hq => ?_
        obtain ⟨v, I', rfl, h1, h2, h3, h4⟩ := hq
        obtain ⟨z1, z2⟩ := hM.later hlab (.of h1) I' h2 h3
        refine ⟨v, { g with I := I' }, rfl, z1, z2, fun o ho => by have := hlab o ho; unfold lastN; split <;> omega, ?_⟩
        have key : ∀ {l : List Arg}, (∃ vs : Array Value, v = .tuple vs ∧ vs.size = l.length ∧ ∀ (i : Nat) (x : Arg) (u : Value), l[i]? = some x → vs[i]? = some u → RepA I' w' u x) →
            ∃ vs : Array Value, v = .tuple vs ∧ RelAs { g with I := I' } w' ob rt nx vs.toList (l.map atOf) := by
          rintro l ⟨vs, rfl, q1, q2⟩
          refine ⟨vs, rfl, by simpa using q1, fun i x u hx hu => ?_⟩
          simp only [List.getElem?_map, Option.map_eq_some_iff] at hx
          obtain ⟨y, hy, rfl⟩ := hx
          exact RepA.rel (g := { g with I := I' }) (q2 i y u hy (by simpa using hu))
        match rs0, h4 with
        | [r], h4 => exact RepA.rel (g := { g with I := I' }) h4
        | [], h4 => exact key h4
        | a :: b :: l, h4 => exact key h4
      · cases h
    · split at h
      · rename_i fn hf
        have hb : fn.body.isSome = true := by
          unfold evFn at h
          split at h
          · rename_i c hb; rw [hb]; rfl
          · cases h
        exact ⟨⟨fn, hf, hb, hP.name f fn hf⟩, fn_ok hP.mixed ih hf (fun c hc => hP.code f fn c hf hc) h⟩
      · cases h
end
end Go.Proofs.YtjhljcnjafbkfaaDoor.X
end
