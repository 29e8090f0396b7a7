import Derived.Test.YtcmaohhcbiienaaXK
/-! XL: pieces and new slices, as steps. -/
set_option linter.unusedVariables false
namespace Go.Proofs.Ytcmaohhcbiienaa.X
open Go.RowKit

section
variable {E : Env} {B : Blk} {lim : Nat} {g g' : Gh} {w w' : World} {ob ob' : ObF} {rt rt' : RtF} {nx nx' : Nat}

theorem Cur.sliceSl {s : St} {a : Act} (c : Cur E B lim s g a w) {o : Oper} {t : TypeId} {x : Operand} {lo hi mx : Option Operand} (ho : o.op = .slice t x lo hi mx) {ti : TI} (hT : E.T t = some ti) (hk : ti.kd = 3)
    {p : Option Nat} {l : List (List PV)} (hx : evOpd E s.tm x = .one (.p p (.sl ti.esz l))) {lo' hi' mx' : Option Int} (h1 : optIdx (evOpd E s.tm) lo = some lo') (h2 : optIdx (evOpd E s.tm) hi = some hi') (h3 : optIdx (evOpd E s.tm) mx = some mx')
    (q1 : 0 ≤ lo'.getD 0) (q2 : lo'.getD 0 ≤ hi'.getD l.length) (q3 : hi'.getD l.length ≤ mx'.getD (hi'.getD l.length)) (q4 : mx'.getD (hi'.getD l.length) ≤ l.length) (q5 : mx'.isSome → hi'.isSome) :
    OpOk E B lim s g a w o { val := .one (.p (if mx'.isSome ∧ hi'.getD l.length = mx'.getD (hi'.getD l.length) then some 0 else none) (.sl ti.esz ((l.take (hi'.getD l.length).toNat).drop (lo'.getD 0).toNat))) } := by
  have h := c.opd x
  rw [hx] at h
  have h := sl_rep (one_rep h)
  obtain ⟨hd, j, hj, hjz, _, _⟩ := (tiOk hT).sli hk
  obtain ⟨A, cap, hv, hcap⟩ : ∃ A cap, a.eval x = .slice A l.length cap ∧ l.length ≤ cap := by
    generalize a.eval x = ev at h
    cases h with
    | sl f h1 => exact ⟨_, _, rfl, h1⟩
  rw [hv] at h
  have q6 : mx'.getD cap ≤ (cap : Int) := by
    cases mx' with
    | none => exact Int.le_refl _
    | some m => simp at q4 ⊢; omega
  have q7 : hi'.getD l.length ≤ mx'.getD cap := by
    cases mx' with
    | none => simp at q4 ⊢; omega
    | some m => simpa using q3
  have hb := run_bounds (P := E.P) (w := w) (b := true) (len := l.length) (cap := cap) (opt_idx c h1) (opt_idx c h2) (opt_idx c h3) q1 q2 q7 q6 q5
  have q8 : hi'.getD l.length ≤ (l.length : Int) := by omega
  have hr := piece_rep h (lo := (lo'.getD 0).toNat) (hi := (hi'.getD l.length).toNat) (m := (mx'.getD cap).toNat) (by omega) (by omega) (by omega) (by omega)
  refine c.pure (v := .slice (if (mx'.getD cap).toNat = (lo'.getD 0).toNat then A else A.map (·.add ((lo'.getD 0).toNat * ti.esz))) ((hi'.getD l.length).toNat - (lo'.getD 0).toNat) ((mx'.getD cap).toNat - (lo'.getD 0).toNat)) ?_ (.of (.one ?_))
  · simp [execOp, ho, hv, Instr.sliceAt, Instr.slice, run_underlying hd, hb, run_sizeOf hj, hjz]
  · by_cases hm : mx'.isSome = true ∧ hi'.getD l.length = mx'.getD (hi'.getD l.length)
    · rw [if_pos hm]
      obtain ⟨m1, m2⟩ := hm
      obtain ⟨m, rfl⟩ := Option.isSome_iff_exists.1 m1
      simp only [Option.getD_some] at m2 hr ⊢
      rw [m2] at hr ⊢
      exact .p0 hr
    · rw [if_neg hm]
      exact .p hr

theorem Cur.sliceVw {s : St} {a : Act} (c : Cur E B lim s g a w) {o : Oper} {t : TypeId} {x : Operand} {lo hi : Option Operand} (ho : o.op = .slice t x lo hi none) {ti : TI} (hT : E.T t = some ti) (hk : ti.kd = 3)
    {q k n : Nat} (hx : evOpd E s.tm x = .one (.vw q k n)) {fz : Bool} {rows : List (List PV)} (hq : s.ob q = some (.arr fz ti.esz rows)) {lo' hi' : Option Int} (h1 : optIdx (evOpd E s.tm) lo = some lo')
    (h2 : optIdx (evOpd E s.tm) hi = some hi') (q1 : 0 ≤ lo'.getD 0) (q2 : lo'.getD 0 ≤ hi'.getD n) (q3 : hi'.getD n ≤ n) {rd : List Nat} :
    OpOk E B lim s g a w o { val := .one (.vw q (k + (lo'.getD 0).toNat) (hi'.getD n - lo'.getD 0).toNat), rd := rd } := by
  have h := c.opd x
  rw [hx] at h
  have h := one_rep h
  obtain ⟨hd, j, hj, hjz, _, _⟩ := (tiOk hT).sli hk
  generalize hv : a.eval x = ev at h
  cases h with
  | vw hq' r1 r2 r3 r4 r5 r6 =>
    rename_i cap A fz' z' rows'
    rw [hq] at hq'
    cases hq'
    have hb := run_bounds (P := E.P) (w := w) (b := true) (len := n) (cap := cap) (mx := none) (mx' := none) (opt_idx c h1) (opt_idx c h2) (.inl ⟨rfl, rfl⟩) q1 q2 (by simp; omega) (by simp) (by simp)
    simp only [Option.getD_none, Int.toNat_natCast] at hb
    refine c.pure (v := .slice (if cap = (lo'.getD 0).toNat then A else A.map (·.add ((lo'.getD 0).toNat * ti.esz))) ((hi'.getD n).toNat - (lo'.getD 0).toNat) (cap - (lo'.getD 0).toNat)) ?_ (.of (.one ?_))
    · simp [execOp, ho, hv, Instr.sliceAt, Instr.slice, run_underlying hd, hb, run_sizeOf hj, hjz]
    · have e1 : (hi'.getD n).toNat - (lo'.getD 0).toNat = (hi'.getD n - lo'.getD 0).toNat := by omega
      rw [e1]
      refine .vw hq (by omega) (by omega) (by omega) (fun hn => ?_) (fun ad had => ?_) fun hn => ?_
      · split at hn
        · omega
        · simp only [Option.map_eq_none_iff] at hn
          have := r4 hn
          omega
      · split at had
        · exact r5 ad had
        · simp only [Option.map_eq_some_iff] at had
          obtain ⟨a', ha', rfl⟩ := had
          obtain ⟨b2, o2, sp⟩ := a'
          have := r5 _ ha'
          simp only at this
          subst this
          rw [Addr.add_lit]
      · have hne : ¬ cap = (lo'.getD 0).toNat := by omega
        rw [if_neg hne, r6 (by omega)]
        simp only [Option.map_some, Addr.add_lit, Nat.add_mul]

theorem wrap_le {n : Int} (h : n ≤ 16777216) : n ≤ 9223372036854775807 := by omega

theorem Cur.makeRight {s : St} {a : Act} (c : Cur E B lim s g a w) {o : Oper} {t : TypeId} {x y : Operand} (ho : o.op = .makeSlice t x y) {ti te : TI} (hT : E.T t = some ti) (hk : ti.kd = 3) (hTe : E.T ti.e = some te)
    {n : Int} (hx : isZero x = true) (hy : idxOf (evOpd E s.tm y) = some n) (h0 : 0 ≤ n) (hn : n ≤ 16777216) (hby : ti.eby ≤ 4096) :
    OpOk E B lim s g a w o { val := .one (.p (some s.nx) (.sl ti.esz [])), rw := some 0, nl := true } := by
  obtain ⟨kc, hv⟩ := idx_rep (c.opd y) hy
  obtain ⟨kl, hv0⟩ : ∃ k, a.eval x = .int k 0 := by
    unfold isZero at hx
    split at hx
    · exact ⟨_, rfl⟩
    · cases hx
  obtain ⟨hd, j, hj, hjz, hjb, _⟩ := (tiOk hT).sli hk
  obtain ⟨d, i, zv, hd', hi, hsz, hzv, hza, hzl, _⟩ := (tiOk hTe).base
  rw [hj] at hi
  cases hi
  have hbytes : (j.bytes : Int) * n ≤ 281474976710656 := by
    have h1 : (j.bytes : Int) ≤ 4096 := by omega
    have : (j.bytes : Int) * n ≤ 4096 * 16777216 := Int.mul_le_mul h1 hn h0 (by omega)
    omega
  have hr := run_make (P := E.P) w t ti.e j zv hd hj hzv kl kc 0 n (Int.le_refl _) h0 hbytes (wrap_le hn)
  obtain ⟨hE, hM⟩ := c.mem.right c.lab 0 g.I (w.alloc (.cells (madeCells zv.cells (n.toNat * j.size)) ti.e)) (.slice (some ⟨w.heap.size, 0, none⟩) 0 n.toNat) ti.esz (some w.heap.size)
    ((Keep.refl B w).alloc c.mem.size _) (fun _ _ q => q) (fun _ _ _ q => q) (fun b i q => World.cell?_alloc_lt _ _ _ (c.mem.bnd b i q))
    (fun b hb _ => ⟨heap_old _ _ hb, fun _ q => q⟩)
    (fun b hb => by
      cases hb
      refine ⟨fun p x hx hs => ?_, fun m m0 hm ht _ hβ => absurd ((c.mem.own m m0 hm ht).lt hβ).1 (Nat.lt_irrefl _)⟩
      have := (c.mem.obj p x hx).1.lt hs
      omega)
    (.own w.heap.size 0 n.toNat ti.esz ti.e _ (upd_same _ _ _) (upd_same _ _ _) (fun hB => absurd (c.mem.size _ hB) (Nat.lt_irrefl _)) (heap_new _ _) (Nat.zero_le _) (by simp only [maxLen]; omega) (by rw [size_madeCells, hjz])
      (fun i _ q => absurd (c.mem.bnd _ i q) (Nat.lt_irrefl _))
      (fun p x hx hs => by
        have := (c.mem.obj p x hx).1.lt hs
        show g.φ p ≠ _
        omega))
    (fun b i q => by
      have := c.mem.bnd b i q
      simp
      omega)
  refine .value (v := .slice (some ⟨w.heap.size, 0, none⟩) 0 n.toNat) (w' := w.alloc (.cells (madeCells zv.cells (n.toNat * j.size)) ti.e)) ?_ ⟨hE, hM, c.lab, .of (.one (.pn (by have := c.mem.pos; omega) (Nat.lt_succ_self _) ?_ fun _ => upd_same _ _ _))⟩
  · simp only [Int.toNat_zero] at hr
    simp [execOp, ho, hv, hv0, hr]
  · exact .sl (l := []) (fun _ _ => undef) (Nat.zero_le _) (by simp only [maxLen]; omega) (fun h => by cases h) (fun a ha => by cases ha; rfl) (fun i r h => by simp at h) (fun a ha i r j x h => by simp at h) fun i r j x h => by simp at h

theorem Cur.makeVw {s : St} {a : Act} (c : Cur E B lim s g a w) {o : Oper} {t : TypeId} {x y : Operand} (ho : o.op = .makeSlice t x y) {ti te : TI} (hT : E.T t = some ti) (hk : ti.kd = 3) (hTe : E.T ti.e = some te)
    {n : Int} (hx : idxOf (evOpd E s.tm x) = some n) (hy : idxOf (evOpd E s.tm y) = some n) (h0 : 0 ≤ n) (hn : n ≤ 16777216) (hby : ti.eby ≤ 4096) (hz0 : 0 < ti.esz) {z : List PV} (hz : pvL s.ob te.zero = some z)
    (hzl : z.length = ti.esz) {q : Nat} (hq : s.ob q = none) (hql : q < lim) {rd : List Nat} :
    OpOk E B lim s g a w o { val := .one (.vw q 0 n.toNat), ow := [(q, .arr false ti.esz (List.replicate n.toNat z))], rd := rd } := by
  obtain ⟨kc, hv⟩ := idx_rep (c.opd y) hy
  obtain ⟨kl, hv0⟩ := idx_rep (c.opd x) hx
  obtain ⟨hd, j, hj, hjz, hjb, _⟩ := (tiOk hT).sli hk
  obtain ⟨d, i, zv, hd', hi, hsz, hzv, hza, hzl', _⟩ := (tiOk hTe).base
  rw [hj] at hi
  cases hi
  have hbytes : (j.bytes : Int) * n ≤ 281474976710656 := by
    have h1 : (j.bytes : Int) ≤ 4096 := by omega
    have : (j.bytes : Int) * n ≤ 4096 * 16777216 := Int.mul_le_mul h1 hn h0 (by omega)
    omega
  have hr := run_make (P := E.P) w t ti.e j zv hd hj hzv kl kc n n h0 (Int.le_refl _) hbytes (wrap_le hn)
  have hrel := zero_all (g := g) (w := w) (ob := s.ob) (rt := s.rt) (nx := s.nx) hza
  simp only [Array.toArray_toList] at hrel
  have hzz : zv.cells.size = ti.esz := by rw [hrel.1, hzl', ← hsz, hjz]
  obtain ⟨_, hzr⟩ := RelL.seen c.mem (I := g.I) (fun _ _ q => q) (vs := zv.cells.toList) (by rw [Array.length_toList]; exact hrel.1) (fun j x v hx hv => hrel.2 j x v hx (by simpa using hv)) hz
    (fun p hp => by
      exfalso
      obtain ⟨cv, hcv, hp⟩ := List.mem_flatMap.1 hp
      obtain ⟨k, hk, e⟩ := List.mem_iff_getElem.1 hcv
      have hk2 : k < zv.cells.size := by rw [hrel.1]; exact hk
      have hf : ∀ {cs : List CV} {vs : List Value}, zeroAll cs vs = true → ∀ cv ∈ cs, seenC cv = [] := by
        intro cs
        induction cs with
        | nil => intro vs _ cv h; cases h
        | cons b cs ih =>
          intro vs h cv hm
          cases vs with
          | nil => simp [zeroAll] at h
          | cons v vs =>
            simp only [zeroAll, Bool.and_eq_true] at h
            rcases List.mem_cons.1 hm with rfl | hm
            · have := h.1
              unfold zeroFits at this
              split at this <;> first | rfl | cases this
            · exact ih h.2 cv hm
      rw [hf hza cv hcv] at hp
      cases hp)
  have hE : Ext B lim g w s.ob s.rt s.nx { g with φ := upd g.φ q w.heap.size } (w.alloc (.cells (madeCells zv.cells (n.toNat * j.size)) ti.e)) (upd s.ob q (some (.arr false ti.esz (List.replicate n.toNat z)))) s.rt s.nx := Ext.var c.mem hq _ _
  have hM := RelM.var c.mem c.lab hq (.cells (madeCells zv.cells (n.toNat * j.size)) ti.e) (.arr false ti.esz (List.replicate n.toNat z))
    (.arr ti.e _ (heap_new w _) (Nat.le_of_eq (by rw [size_madeCells, List.length_replicate, hjz])) (by rw [List.length_replicate]; simp only [maxLen]; omega)
      (fun i r hr => by rw [List.getElem?_replicate] at hr; split at hr <;> simp at hr; rw [← hr]; exact hzl)
      (fun i r j' x v hr' hx' hv' => by
        rw [List.getElem?_replicate] at hr'
        split at hr'
        · cases hr'
          have hj' : j' < ti.esz := by rw [← hzl]; exact (List.getElem?_eq_some_iff.1 hx').1
          have hlt : i * ti.esz + j' < n.toNat * j.size := by rw [hjz]; exact at_lt (by assumption) hj'
          rw [madeCells, Array.getElem?_map, Array.getElem?_range, if_pos hlt] at hv'
          simp only [Option.map_some, Option.some.injEq] at hv'
          refine RepP.ext hE (hzr j' x v hx' ?_)
          have e1 : (i * ti.esz + j') % zv.cells.size = j' := by rw [hzz, Nat.mul_comm, Nat.mul_add_mod, Nat.mod_eq_of_lt hj']
          rw [e1] at hv'
          have hj2 : j' < zv.cells.size := by omega
          rw [Array.getElem?_toList, Array.getElem?_eq_getElem hj2, ← hv']
          simp [hj2]
        · cases hr')
      (fun _ i hi => absurd (c.mem.bnd _ i hi) (Nat.lt_irrefl _)) (fun h => by cases h))
  refine .value (g' := { g with φ := upd g.φ q w.heap.size }) (v := .slice (some ⟨w.heap.size, 0, none⟩) n.toNat n.toNat) (w' := w.alloc (.cells (madeCells zv.cells (n.toNat * j.size)) ti.e)) ?_ ⟨hE, hM, fun p hp => ?_, ?_⟩
  · simp [execOp, ho, hv, hv0, hr]
  · by_cases hpq : p = q
    · exact hpq ▸ hql
    · exact c.lab p (by simpa [apU, upd_ne _ _ hpq] using hp)
  · refine .of (.one (.vw (upd_same _ _ _) (by simp) (Nat.le_refl _) (by simp only [maxLen]; omega) (fun h => by cases h) (fun a ha => by cases ha; rfl) fun _ => ?_))
    simp only [upd_same, Nat.zero_mul]
end
end Go.Proofs.Ytcmaohhcbiienaa.X
