import Derived.Test.YtcmaohhcbiienaaWC
/-! WD: calls that are given own variables: the operation; arrays out of nothing; clear. -/
set_option linter.unusedVariables false
namespace Go.Proofs.Ytcmaohhcbiienaa.X
open Go.RowKit

section
variable {E : Env} {B U : Blk} {base lim : Nat} {g g1 g2 g' : Gh} {w w' : World} {ob ob1 ob2 ob' : ObF} {rt rt1 rt2 rt' : RtF} {nx nx1 nx2 nx' : Nat}

theorem Ext.drew {lim : Nat} {ob : ObF} {rt : RtF} {nx : Nat} : Ext B lim g w ob rt nx g { w with drawn := w.drawn + 1 } ob rt nx :=
  ⟨⟨rfl, rfl, rfl, Nat.le_refl _, fun _ _ => rfl⟩, fun _ _ h => h, fun _ _ _ h => h, fun _ _ _ => rfl, fun o x _ h => ⟨x, h, .refl x⟩, fun _ _ _ => rfl, fun _ _ h => ⟨h, rfl⟩, Nat.le_refl _⟩
theorem RelM.drew {G : Nat → Option (List PV)} {lim : Nat} {ob : ObF} {rt : RtF} {nx : Nat} (h : RelM G g w ob rt nx B) (hb : ∀ o, (ob o).isSome → o < lim) : RelM G g { w with drawn := w.drawn + 1 } ob rt nx B := by
  have e : Ext B lim g w ob rt nx g { w with drawn := w.drawn + 1 } ob rt nx := Ext.drew
  exact ⟨h.pos, fun k cs hk => (h.glob k cs hk).ext e, h.size, fun o x ho => ⟨(h.obj o x ho).1.ext e hb (fun _ => rfl) fun _ _ h => h, (h.obj o x ho).2⟩, h.inj,
    fun n h0 h1 h2 => (h.own n h0 h1 h2).ext rfl rfl fun b hbb => ⟨rfl, fun _ h => h, fun o x ho hs => by
      cases h.own n h0 h1 h2 with
      | full A k z q1 q2 => rw [q2] at hbb; cases hbb
      | own b' len cap z ee cur q1 q2 q3 q4 q5 q6 q7 q8 q9 => rw [q2] at hbb; cases hbb; exact q9 o x ho hs⟩, h.apart, h.bnd⟩
theorem ResRel.map {g' : Gh} {w' : World} {ob' : ObF} {rt' : RtF} {nx' : Nat} {v : Value} {l rs : List AT} (h : ResRel g w ob rt nx v l) (hl : rs.length = l.length)
    (hm : ∀ (i : Nat) (x y : AT) (u : Value), l[i]? = some x → rs[i]? = some y → RelA g w ob rt nx u x → RelA g' w' ob' rt' nx' u y) : ResRel g' w' ob' rt' nx' v rs := by
  have key : (∃ vs : Array Value, v = .tuple vs ∧ RelAs g w ob rt nx vs.toList l) → ∃ vs : Array Value, v = .tuple vs ∧ RelAs g' w' ob' rt' nx' vs.toList rs := by
    rintro ⟨vs, rfl, h1, h2⟩
    refine ⟨vs, rfl, h1.trans hl.symm, fun i y u hy hu => ?_⟩
    have hi := (List.getElem?_eq_some_iff.1 hy).1
    have hx := List.getElem?_eq_getElem (l := l) (i := i) (by omega)
    exact hm i _ y u hx hy (h2 i _ u hx hu)
  match l, rs, hl, h with
  | [x], [y], _, h => exact hm 0 x y v rfl rfl h
  | [], [], _, h => exact key h
  | a :: b :: l, c :: d :: m, hl, h => exact key h
  | [], _ :: _, hl, _ => simp at hl
  | [_], [], hl, _ => simp at hl
  | [_], _ :: _ :: _, hl, _ => simp at hl
  | _ :: _ :: _, [], hl, _ => simp at hl
  | _ :: _ :: _, [_], hl, _ => simp at hl

theorem Cur.callMv {s : St} {a : Act} {call : CallF} (hcall : CallOk E call) (c : Cur E B lim s g a w) {o : Oper} {f : Operand} {args : Array Operand} {ts : Array TypeId} {k : FuncId} {caps : Array Value} {cs : List AT}
    (ho : o.op = .call { callee := .value f, args, argTypes := ts }) (hf : a.eval f = .func (.func k) #[] caps) (hlen : args.toList.length = ts.toList.length) (hcs : RelAs g w s.ob s.rt s.nx caps.toList cs) {d : Nat} (hd : base + d + 12288 < lim) {u : Upd}
    (h : mvCall call base d k (((args.toList.zip ts.toList).map fun p => X.opT E (evOpd E s.tm) p.2 p.1) ++ cs) s.ob s.rt s.nx = some u) : OpOk E B lim s g a w o u := by
  have hx := (args_rep c hlen).append hcs
  generalize hxs : (((args.toList.zip ts.toList).map fun p => X.opT E (evOpd E s.tm) p.2 p.1) ++ cs) = xs at h hx
  have hvals : (args.map a.eval ++ caps).toList = args.toList.map a.eval ++ caps.toList := by simp
  generalize hvs : args.map a.eval ++ caps = vals at hvals
  rw [← hvals] at hx
  unfold mvCall at h
  split at h
  · rename_i s1 hh
    simp only at h
    split at h
    · rename_i hnd
      split at h
      · rename_i rs ob' rt' nx' hc
        unfold mvEnd at h
        simp only at h
        split at h
        · rename_i hnews
          simp only [Option.map_eq_some_iff] at h
          obtain ⟨r, hr, rfl⟩ := h
          obtain ⟨γ2, β2, a1, a2, a3, a4, a5, a6, a7, a8, a9⟩ := head_core (base := 0) (nx0 := 1) (vis := []) (s := ⟨initTm xs 0, s.ob, s.rt, s.nx⟩) (ev := fun t => vals.getD t undef) c.mem Nat.one_pos c.mem.pos (fun t => by
            simp only [initTm_at, Nat.zero_le, if_true, Nat.sub_zero]
            by_cases ht : t < xs.length
            · have h1 : xs[t]? = some xs[t] := List.getElem?_eq_getElem ht
              have htv : t < vals.size := by have := hx.1; rw [Array.length_toList] at this; omega
              have h2 : vals.toList[t]? = some (vals[t]'htv) := by rw [Array.getElem?_toList]; exact Array.getElem?_eq_getElem htv
              rw [List.getD_eq_getElem?_getD, h1]
              simp only [Array.getD_eq_getD_getElem?, Array.getElem?_eq_getElem htv]
              exact hx.2 t _ _ h1 h2
            · rw [List.getD_eq_getElem?_getD, List.getElem?_eq_none (Nat.le_of_not_lt ht)]
              exact .of .no) (fun o _ h => absurd h (Nat.not_lt_zero _)) hh
          simp only [map_init xs (coldT s.ob)] at a4 a7 a8
          have hmi : (List.range xs.length).map (initTm xs 0) = xs := by simpa using map_init xs id
          rw [hmi] at a7
          generalize hos : (seeO s.ob (xs.map (coldT s.ob)) []).reverse = os at hnd hc hr hnews ⊢
          have hmem : ∀ o, o ∈ seeO s.ob (xs.map (coldT s.ob)) [] ↔ o ∈ os := fun o => by rw [← hos]; exact List.mem_reverse.symm
          have halive : ∀ o ∈ os, (s.ob o).isSome := fun o ho => by
            have := (hmem o).2 ho
            unfold seeO at this
            exact (List.mem_filter.1 this).2
          have hn1 := noDup_iff hnd
          generalize hus : (xs.flatMap rtsT ++ os.flatMap fun o => rtsO (s.ob o)) = used at hr ⊢
          have hused : ∀ q, (q ∈ xs.flatMap rtsT ∨ q ∈ (seeO s.ob (xs.map (coldT s.ob)) []).flatMap fun o => rtsO (s.ob o)) → q ∈ used := fun q h => by
            rw [← hus]
            rcases h with h | h
            · exact List.mem_append_left _ h
            · obtain ⟨o, h1, h2⟩ := List.mem_flatMap.1 h
              exact List.mem_append_right _ (List.mem_flatMap.2 ⟨o, (hmem o).1 h1, h2⟩)
          obtain ⟨U, hU⟩ : ∃ U : Blk, ∀ b, U b ↔ (b < w.heap.size ∧ (∀ o x, s1.ob o = some x → x.solid → g.φ o ≠ b) ∧ ∀ n, n ≠ 0 → n < s1.nx → s1.rt n = true → β2 n ≠ some b) := ⟨_, fun _ => Iff.rfl⟩
          have hM1 := RelM.take (U := U) a1 (L := os) hn1 (fun o ho => (hmem o).1 (a8 o ho)) (fun b hb => ((hU b).1 hb).1) (fun o x hx hs hb => ((hU _).1 hb).2.1 o x hx hs rfl)
            (fun n n0 hn ht b hb hU' => ((hU b).1 hU').2.2 n n0 hn ht hb)
          have hlab1 : ∀ i, (takeO s1.ob os i).isSome → i < os.length := fun i hi => by
            rw [takeO_at] at hi
            rcases Nat.lt_or_ge i os.length with h | h
            · exact h
            · rw [List.getElem?_eq_none h] at hi; cases hi
          have hargs : RelAs (tk ⟨g.I, g.φ, γ2, β2⟩ os) w (takeO s1.ob os) s1.rt s1.nx vals.toList ((List.range xs.length).map fun i => renT (posIn os) 0 (s1.tm i)) := by
            refine ⟨by rw [hx.1]; simp, fun i y v hy hv => ?_⟩
            simp only [List.getElem?_map, Option.map_eq_some_iff] at hy
            obtain ⟨j, hj, rfl⟩ := hy
            obtain ⟨_, hji⟩ := List.getElem?_eq_some_iff.1 hj
            simp at hji
            subst hji
            have := RelA.ren (fun k => take_rel hn1 (fun o ho => (hmem o).1 (a8 o ho)) k) (a2 i)
            have hv' : vals[i]? = some v := by simpa using hv
            rw [Array.getD_eq_getD_getElem?, hv'] at this
            exact this
          obtain ⟨he, hcal⟩ := hcall _ _ _ _ _ _ _ _ _ _ _ hc
          intro K Q hK
          unfold Oper.wp
          rw [exec_call ho hf he, hvs]
          refine (hcal (tk ⟨g.I, g.φ, γ2, β2⟩ os) w U vals hM1 hlab1 hargs).mono fun e w' hq => ?_
          obtain ⟨v, g', rfl, q1, q2, q3, q4⟩ := hq
          have hnl : ∀ q ∈ [base + d, base + d + 4096, base + d + 8192, base + d + 12288], s.ob q = none ∧ q < lim := fun q hq => by
            refine ⟨?_, ?_⟩
            · have := List.all_eq_true.1 hnews q hq
              simpa using this
            · simp only [List.mem_cons, List.not_mem_nil, or_false] at hq
              rcases hq with rfl | rfl | rfl | rfl <;> omega
          obtain ⟨g2, m1, m2, m3, m4⟩ := merge (U := U) (g1 := tk ⟨g.I, g.φ, γ2, β2⟩ os) (ob1 := takeO s1.ob os) (rt1 := s1.rt) (nx1 := s1.nx) (g' := g') (w' := w') (ob' := ob') (rt' := rt') (nx' := nx') c.mem c.lab (os := os) (news := [base + d, base + d + 4096, base + d + 8192, base + d + 12288]) (used := used)
            (fun b hb => (hU b).2 ⟨c.mem.size b hb, fun o x hx hs e => by
              obtain ⟨y, hy, l⟩ := a3 o x hx
              exact (c.mem.obj o y hy).2 (l.solid.2 hs) (e ▸ hb), fun n n0 hn ht e => ((a1.own n n0 hn ht).lt e).2 hb⟩)
            (fun o x hx hs hno => (hU _).2 ⟨(c.mem.obj o x hx).1.lt hs, fun o' x' hx' hs' e => by
              obtain ⟨y, hy, l⟩ := a3 o' x' hx'
              have := c.mem.inj o' o y x hy hx (l.solid.2 hs') hs e
              subst this
              exact hno ((hmem o').1 (a8 o' (by rw [hx']; rfl))), fun n n0 hn ht e => by
              obtain ⟨q, _, q0, q1, q2, q3⟩ := a7 n _ (by omega) hn e
              cases c.mem.own q q0 q1 q2 with
              | full A k z r1 r2 => rw [r2] at q3; cases q3
              | own b' len cap z ee cur r1 r2 r3 r4 r5 r6 r7 r8 r9 => rw [r2] at q3; cases q3; exact r9 o x hx hs rfl⟩)
            (fun n n0 hn ht hnu b hb => (hU b).2 ⟨((c.mem.own n n0 hn ht).lt hb).1, fun o x hx hs e => by
              obtain ⟨y, hy, l⟩ := a3 o x hx
              cases c.mem.own n n0 hn ht with
              | full A k z r1 r2 => rw [r2] at hb; cases hb
              | own b' len cap z ee cur r1 r2 r3 r4 r5 r6 r7 r8 r9 => rw [r2] at hb; cases hb; exact r9 o y hy (l.solid.2 hs) e, fun m m0 hm tm e => by
              obtain ⟨q, hq, q0, q1, q2, q3⟩ := a7 m b (by omega) hm e
              have := c.mem.apart n q b n0 q0 hn q1 ht q2 hb q3
              subst this
              exact hnu (hused n hq)⟩)
            halive hnl hn1 (by
              simp only [List.nodup_cons, List.mem_cons, List.not_mem_nil, or_false, not_or, List.nodup_nil, and_true, not_false_eq_true]
              omega)
            rfl (fun i o x hi hx => by
              obtain ⟨y, hy, l⟩ := a4 o x hx (.inr ((hmem o).2 (List.mem_of_getElem? hi)))
              refine ⟨renO (posIn os) 0 y, by rw [takeO_at, hi]; simp [hy], l.trans (renO_like y), ?_⟩
              simp [tk, List.getD_eq_getElem?_getD, hi]) q1 q2 (fun o ho => by
              have := q3 o ho
              simp only [lastN, if_true] at this
              simpa using this)
          refine hK v g2 w' ⟨m1, m2, m3, resAll_rep (q4.map (by simp) fun i x y u hx hy hu => ?_) hr⟩
          simp only [List.getElem?_map, Option.map_eq_some_iff] at hy
          obtain ⟨x', hx', rfl⟩ := hy
          rw [hx] at hx'
          cases hx'
          exact RelA.ren m4 hu
        · cases h
      · cases h
    · cases h
  · cases h

/-- A new array without rows. -/
theorem Ext.empty {z : Nat} {o : Nat} (ho : ob o = none) : Ext B base g w ob rt nx g w (upd ob o (some (.arr false z []))) rt nx where
  below := Keep.refl B w
  I _ _ hi := hi
  old _ _ _ hi := hi
  cell _ _ _ := rfl
  like p y _ hy := by
    have hne : p ≠ o := fun e => by subst e; rw [ho] at hy; cases hy
    exact ⟨y, by rw [upd_ne _ _ hne]; exact hy, .refl y⟩
  φ _ _ _ := rfl
  rt _ _ ht := ⟨ht, rfl⟩
  nx := Nat.le_refl _
theorem RelM.empty {G : Nat → Option (List PV)} (h : RelM G g w ob rt nx B) (hb : ∀ o, (ob o).isSome → o < base) {z o : Nat} (ho : ob o = none) : RelM G g w (upd ob o (some (.arr false z []))) rt nx B := by
  have hE : Ext B base g w ob rt nx g w (upd ob o (some (.arr false z []))) rt nx := Ext.empty ho
  have key : ∀ p y, upd ob o (some (.arr false z [])) p = some y → y.solid → ob p = some y := fun p y hy hs => by
    by_cases e : p = o
    · subst e; rw [upd_same] at hy; cases hy; exact hs.elim
    · rwa [upd_ne _ _ e] at hy
  refine ⟨h.pos, h.glob, h.size, fun p y hy => ?_, fun p q x y hp hq sx sy hφ => h.inj p q x y (key p x hp sx) (key q y hq sy) sx sy hφ, fun n n0 hn ht => ?_, h.apart, h.bnd⟩
  · by_cases e : p = o
    · subst e
      rw [upd_same] at hy
      cases hy
      exact ⟨.nil, fun h => h.elim⟩
    · rw [upd_ne _ _ e] at hy
      obtain ⟨q, r⟩ := h.obj p y hy
      exact ⟨q.ext hE hb (fun _ => rfl) (fun _ i hi => hi), r⟩
  · cases h.own n n0 hn ht with
    | full A k z q1 q2 => exact .full A k z q1 q2
    | own b' len cap z ee cur q1 q2 q3 q4 q5 q6 q7 q8 q9 => exact .own b' len cap z ee cur q1 q2 q3 q4 q5 q6 q7 q8 fun p x hx hs => q9 p x (key p x hx hs) hs

/-- An array out of what is appended to nothing. -/
theorem Cur.appendNew {s : St} {a : Act} (c : Cur E B lim s g a w) {o : Oper} {t : TypeId} {x y : Operand} (ho : o.op = .call { callee := .builtin .append, args := #[x, y], argTypes := #[t, t] }) {ti te : TI}
    (hT : E.T t = some ti) (hk : ti.kd = 3) (hTe : E.T ti.e = some te) {l : List (List PV)} {cy : CV} (hx : X.opT E (evOpd E s.tm) t x = .one (.p (some 0) (.sl ti.esz [])))
    (hy : X.opT E (evOpd E s.tm) t y = .one cy) (hl : pvC s.ob cy = some (.sl ti.esz l)) (h0 : 0 < ti.esz) (hlen : l.length ≤ 16777216) (hby : ti.eby ≤ 4096) {q : Nat} (hq : s.ob q = none) (hql : q < lim) {rd : List Nat} :
    OpOk E B lim s g a w o { val := .one (.vw q 0 l.length), ow := [(q, .arr false ti.esz l)], rd := rd } := by
  have h1 := c.opT t x
  rw [hx] at h1
  have h2 := c.opT t y
  rw [hy] at h2
  obtain ⟨hd, j, hj, hjz, hjb, _⟩ := (tiOk hT).sli hk
  obtain ⟨d, i, zv, hd', hi, hsz, hzv, hza, hzl, _⟩ := (tiOk hTe).base
  rw [hj] at hi
  cases hi
  have hzz : zv.cells.size = ti.esz := by
    have := (zero_all (g := g) (w := w) (ob := s.ob) (rt := s.rt) (nx := s.nx) hza).1
    simp at this
    omega
  obtain ⟨kr, kf, kn⟩ := (one_rep h1).slice
  obtain ⟨A, k, hA⟩ := kf rfl
  rw [hA] at kr
  have hsp : ∀ ad, A = some ad → ad.spot = none := by
    generalize hnn : ([] : List (List PV)) = nl at kr
    cases kr with
    | sl f q1 q2 q3 q4 => exact q4
  have hk0 : k = 0 := by
    generalize hnn : ([] : List (List PV)) = nl at kr
    cases kr
    rw [← hnn]
    rfl
  subst hk0
  obtain ⟨A', cap', us, hv, hR, hone, hnil, hcell⟩ := src_rows c.mem (one_rep h2) hl
  have lab' : ∀ z, ∀ p, ((apU none ({ val := .one (.vw q 0 l.length), ow := [(q, .arr false ti.esz z)], rd := rd } : Upd) s).ob p).isSome → p < lim := fun z p hp => by
    by_cases hpq : p = q
    · exact hpq ▸ hql
    · exact c.lab p (by simpa [apU, upd_ne _ _ hpq] using hp)
  by_cases hm : l.length = 0
  · have hl0 := List.eq_nil_of_length_eq_zero hm
    subst hl0
    have hr := append_none (P := E.P) (w := w) t o.type ti.e j hd hj A 0 0 (Nat.le_refl _) A' cap'
    refine .value (v := .slice A 0 0) (g' := g) (w' := w) ?_ ⟨Ext.empty hq, c.mem.empty c.lab hq, lab' [], .of (.one (.vw (upd_same _ _ _) (by simp) (Nat.le_refl _) (Nat.zero_le _) (fun _ => rfl) (fun ad had => ?_) (fun h => absurd rfl h)))⟩
    · simp only [List.length_nil] at hv
      simp only [execOp, ho, resolve, invoke, builtin, Sem.run_bind, Sem.run_pure, Result.andThen_ok, List.map_toArray, List.map_cons, List.map_nil, hA, hv, hr]
    · exact hsp ad had
  · have hm0 : 0 < l.length := Nat.pos_of_ne_zero hm
    obtain ⟨a', rfl⟩ : ∃ a, A' = some a := by
      cases A' with
      | none => have := hnil rfl; omega
      | some a => exact ⟨a, rfl⟩
    have hul : us.toList.length = l.length * ti.esz := by rw [Array.length_toList]; exact hR.1
    have hnews : ∀ j u, us.toList[j]? = some u → w.cell? (a'.add j) = some u := fun j u hu => hcell a' rfl j u hu
    have hneed : l.length ≤ maxLen := by simp only [maxLen]; omega
    have hbytes : l.length * j.bytes ≤ 140737488355328 := Nat.le_trans (Nat.mul_le_mul hlen (by omega : j.bytes ≤ 4096)) (by decide)
    have hr : (Builtin.append_ #[t, t] o.type #[.slice A 0 0, .slice (some a') l.length cap']).run E.P w =
        .ok (.slice (some ⟨w.heap.size, 0, none⟩) l.length (grownCap w l.length 0 ti.e)) (w.drew.alloc (.cells (us.toList.toArray ++ Builtin.zeroCells zv.cells (grownCap w l.length 0 ti.e - l.length)) ti.e)) := by
      cases A with
      | none =>
        exact run_append_nil (P := E.P) w t o.type ti.e j zv hd hj hzv a' l.length cap' us.toList (by rw [hul, hjz]) hnews hm0 (by simp only [maxLen] at hneed; omega) (Nat.le_trans hbytes (by decide))
      | some ad =>
        have := run_append_grow (P := E.P) w t o.type ti.e j zv hd hj hzv ad 0 0 [] (by simp) (fun j u hu => by simp at hu) a' l.length cap' us.toList (by rw [hul, hjz]) hnews
          (by omega) (by simp only [maxLen] at hneed; omega) (growslice_fits (by omega) (by simpa using hbytes))
        simpa using this
    have hge := grownCap_ge w l.length 0 ti.e
    have hle := grownCap_le_maxLen w l.length 0 ti.e hneed
    have hMd : RelM E.G g w.drew s.ob s.rt s.nx B := c.mem.drew c.lab
    have hEd : Ext B lim g w s.ob s.rt s.nx g w.drew s.ob s.rt s.nx := Ext.drew
    have hE := hEd.trans (Ext.var (base := lim) hMd hq (.cells (us.toList.toArray ++ Builtin.zeroCells zv.cells (grownCap w l.length 0 ti.e - l.length)) ti.e) (.arr false ti.esz l))
    have hM := RelM.var hMd c.lab hq (.cells (us.toList.toArray ++ Builtin.zeroCells zv.cells (grownCap w l.length 0 ti.e - l.length)) ti.e) (.arr false ti.esz l)
      (.arr ti.e _ (heap_new w.drew _) (by simp only [Array.size_append, List.size_toArray, hul]; omega) hneed hR.2.1 (fun i r j x v hr' hx' hv' => by
        have hj' : j < ti.esz := by rw [← hR.2.1 i r hr']; exact (List.getElem?_eq_some_iff.1 hx').1
        have hlt : i * ti.esz + j < l.length * ti.esz := at_lt (List.getElem?_eq_some_iff.1 hr').1 hj'
        rw [Array.getElem?_append_left (by simp only [List.size_toArray, hul]; exact hlt)] at hv'
        exact (hR.2.2 i r j x v hr' hx' (by simpa using hv')).ext hE)
        (fun _ i hi => absurd (c.mem.bnd _ i hi) (Nat.lt_irrefl _)) (fun h => by cases h))
    refine .value (g' := { g with φ := upd g.φ q w.heap.size }) (v := .slice (some ⟨w.heap.size, 0, none⟩) l.length (grownCap w l.length 0 ti.e))
      (w' := w.drew.alloc (.cells (us.toList.toArray ++ Builtin.zeroCells zv.cells (grownCap w l.length 0 ti.e - l.length)) ti.e)) ?_ ⟨hE, hM, lab' l, ?_⟩
    · simp only [execOp, ho, resolve, invoke, builtin, Sem.run_bind, Sem.run_pure, Result.andThen_ok, List.map_toArray, List.map_cons, List.map_nil, hA, hv, hr]
    · refine .of (.one (.vw (upd_same _ _ _) (by simp) hge hle (fun h => by cases h) (fun a ha => by cases ha; rfl) fun _ => ?_))
      simp only [upd_same, Nat.zero_mul]
theorem zero_seen' : ∀ {cs : List CV} {vs : List Value}, zeroAll cs vs = true → cs.flatMap seenC = []
  | [], _, _ => rfl
  | b :: cs, [], h => by simp [zeroAll] at h
  | b :: cs, v :: vs, h => by
    simp only [zeroAll, Bool.and_eq_true] at h
    rw [List.flatMap_cons, zero_seen' h.2]
    have := h.1
    unfold zeroFits at this
    split at this <;> first | rfl | cases this
/-- Nothing but the zero value: the cells of a type's zero value, as they are read. -/
theorem zero_rows1 {te : TI} {ob : ObF} {z : List PV} {G : Nat → Option (List PV)} (hm : RelM G g w ob rt nx B) {zv : Value} (hza : zeroAll te.zero zv.cells.toList = true) (hz : pvL ob te.zero = some z) :
    zv.cells.size = z.length ∧ ∀ (j : Nat) (x : PV) (v : Value), z[j]? = some x → zv.cells.toList[j]? = some v → RepP g.I w v x := by
  have hrel := zero_all (g := g) (w := w) (ob := ob) (rt := rt) (nx := nx) hza
  simp only [Array.toArray_toList] at hrel
  obtain ⟨h1, h2⟩ := RelL.seen hm (I := g.I) (fun _ _ q => q) (vs := zv.cells.toList) (by rw [Array.length_toList]; exact hrel.1) (fun j x v hx hv => hrel.2 j x v hx (by simpa using hv)) hz
    (fun p hp => by rw [zero_seen' hza] at hp; cases hp)
  exact ⟨by rw [hrel.1, h1], h2⟩

theorem Cur.clear {s : St} {a : Act} (c : Cur E B lim s g a w) {o : Oper} {t : TypeId} {x : Operand} (ho : o.op = .call { callee := .builtin .clear, args := #[x], argTypes := #[t] }) {ti te : TI}
    (hT : E.T t = some ti) (hk : ti.kd = 3) (hTe : E.T ti.e = some te) {q lo n : Nat} {rows : List (List PV)} {z : List PV} (hx : evOpd E s.tm x = .one (.vw q lo n)) (hq : s.ob q = some (.arr false ti.esz rows))
    (hz : pvL s.ob te.zero = some z) (hzl : z.length = ti.esz) (hle : lo + n ≤ rows.length) {rd : List Nat} :
    OpOk E B lim s g a w o { val := .tup [], ow := [(q, .arr false ti.esz (splice rows lo (List.replicate n z)))], rd := rd } := by
  obtain ⟨hd, j, hj, hjz, hjb, _⟩ := (tiOk hT).sli hk
  obtain ⟨d, i, zv, hd', hi, hsz, hzv, hza, hzl', _⟩ := (tiOk hTe).base
  rw [hj] at hi
  cases hi
  obtain ⟨hzs, hzr⟩ := zero_rows1 c.mem hza hz
  have hxr := c.opd x
  rw [hx] at hxr
  have hxr := one_rep hxr
  generalize hev : a.eval x = ev at hxr
  cases hxr with
  | vw hq' r1 r2 r3 r4 r5 r6 =>
    rename_i cap' A' fz' z' rows'
    rw [hq] at hq'
    cases hq'
    by_cases hn : n = 0
    · subst hn
      have e0 : splice rows lo (List.replicate 0 z) = rows := by simp [splice]
      have eo : upd s.ob q (some (.arr false ti.esz rows)) = s.ob := by
        funext p
        by_cases hp : p = q
        · rw [hp, upd_same, hq]
        · rw [upd_ne _ _ hp]
      have hap : (apU none ({ val := .tup [], ow := [(q, .arr false ti.esz rows)], rd := rd } : Upd) s) = s := by
        simp [apU, eo]
      rw [e0]
      refine .value (v := .tuple #[]) (g' := g) (w' := w) ?_ ⟨by rw [hap]; exact Ext.refl .., by rw [hap]; exact c.mem, by rw [hap]; exact c.lab, .tup rfl fun j t v h => by simp at h⟩
      cases A' <;> simp [execOp, ho, resolve, invoke, builtin, Builtin.clear_, run_underlying hd, hev]
    · have hA := r6 hn
      subst hA
      have hne : rows ≠ [] := fun e => by subst e; simp at hle; omega
      obtain ⟨e, cur, hh, hR0, hmx⟩ := (c.mem.obj q _ hq).1.rows hne
      have hI := c.mem.frozen hq hne
      have hzc : (Builtin.zeroCells zv.cells n).size = n * ti.esz := by rw [size_zeroCells, hzs, hzl]
      have hR : RowsRel g.I w ti.esz (Builtin.zeroCells zv.cells n) (List.replicate n z) := by
        refine ⟨by rw [hzc, List.length_replicate], fun i r hr => ?_, fun i r j' x v hr' hx' hv' => ?_⟩
        · rw [List.getElem?_replicate] at hr
          split at hr <;> simp at hr
          rw [← hr]; exact hzl
        · rw [List.getElem?_replicate] at hr'
          split at hr'
          · rename_i hin
            cases hr'
            have hj' : j' < ti.esz := by rw [← hzl]; exact (List.getElem?_eq_some_iff.1 hx').1
            have hlt : i * ti.esz + j' < n * zv.cells.size := by rw [hzs, hzl]; exact at_lt hin hj'
            rw [Builtin.zeroCells, Array.getElem?_map, Array.getElem?_range, if_pos hlt] at hv'
            simp only [Option.map_some, Option.some.injEq] at hv'
            refine hzr j' x v hx' ?_
            have e1 : (i * ti.esz + j') % zv.cells.size = j' := by rw [hzs, hzl, Nat.mul_comm, Nat.mul_add_mod, Nat.mod_eq_of_lt hj']
            rw [e1] at hv'
            have hj2 : j' < zv.cells.size := by omega
            rw [Array.getElem?_toList, Array.getElem?_eq_getElem hj2, ← hv']
            simp [hj2]
          · cases hr'
      have hone : ∀ v ∈ (Builtin.zeroCells zv.cells n).toList, v.oneCell' = true := fun v hv => by
        obtain ⟨k, hk, e2⟩ := List.mem_iff_getElem.1 hv
        have hk' : k < n * ti.esz := by simp only [Array.length_toList, hzc] at hk; exact hk
        have hz0 : 0 < ti.esz := Nat.pos_of_ne_zero fun h => by rw [h] at hk'; simp at hk'
        have hi : k / ti.esz < n := (Nat.div_lt_iff_lt_mul hz0).2 hk'
        have hm : k % ti.esz < z.length := by rw [hzl]; exact Nat.mod_lt _ hz0
        have e3 : k / ti.esz * ti.esz + k % ti.esz = k := by rw [Nat.mul_comm]; exact Nat.div_add_mod k ti.esz
        refine flat_one (RepP.flat (hR.2.2 (k / ti.esz) z (k % ti.esz) z[k % ti.esz] v (by rw [List.getElem?_replicate, if_pos hi]) (List.getElem?_eq_getElem hm) ?_))
        rw [e3, ← Array.getElem?_toList, List.getElem?_eq_getElem hk, e2]
      have hR2 := hR0.splice hR (lo := lo) (by rw [List.length_replicate]; exact hle)
      have hlike : Obj.like (.arr false ti.esz rows) (.arr false ti.esz (splice rows lo (List.replicate n z))) := ⟨rfl, splice_length (by rw [List.length_replicate]; exact hle)⟩
      have hE : Ext B lim g w s.ob s.rt s.nx g (w.setRow (g.φ q) (splice cur.toList (lo * ti.esz) (Builtin.zeroCells zv.cells n).toList).toArray) (upd s.ob q (some (.arr false ti.esz (splice rows lo (List.replicate n z))))) s.rt s.nx :=
        Ext.store c.mem hq hlike (Obj.solid_ne hne) _ hI
      have hM := RelM.store c.mem c.lab hq hlike (Obj.solid_ne hne) (splice cur.toList (lo * ti.esz) (Builtin.zeroCells zv.cells n).toList).toArray hI
        (.arr e _ (setRow_heap w _ cur _ e (0, 0) hh) hR2.1 (by rw [splice_length (by rw [List.length_replicate]; exact hle)]; exact hmx) hR2.2.1 (fun i r j x v q1 q2 q3 => (hR2.2.2 i r j x v q1 q2 q3).ext hE) (fun _ => hI) (fun h => by cases h))
      refine .value (v := .tuple #[]) (g' := g) (w' := w.setRow (g.φ q) (splice cur.toList (lo * ti.esz) (Builtin.zeroCells zv.cells n).toList).toArray) ?_ ⟨hE, hM, fun p hp => ?_, .tup rfl fun j t v h => by simp at h⟩
      · have hst := run_storeCells_at E.P (g.φ q) (lo * ti.esz) e (Builtin.zeroCells zv.cells n).toList 0 cur w hh (by
          have q := hR0.1
          have hend : lo * ti.esz + n * ti.esz ≤ rows.length * ti.esz := by rw [← Nat.add_mul]; exact Nat.mul_le_mul_right _ hle
          rw [Array.length_toList, hzc]; omega) hone
        simp only [Nat.add_zero] at hst
        obtain ⟨m, rfl⟩ : ∃ m, n = m + 1 := ⟨n - 1, by omega⟩
        have hzvr : (zeroValue ti.e).run E.P w = .ok zv w := run_zeroValue hj hzv w
        simp only [execOp, ho, resolve, invoke, builtin, Builtin.clear_, hev, Sem.run_bind, Sem.run_pure, Result.andThen_ok, List.map_toArray, List.map_cons, List.map_nil, List.getElem?_toArray, List.getElem?_cons_zero, run_underlying hd, hzvr, hst]
        rfl
      · by_cases hpq : p = q
        · exact hpq ▸ c.lab q (by simp [hq])
        · exact c.lab p (by simpa [apU, upd_ne _ _ hpq] using hp)
end
end Go.Proofs.Ytcmaohhcbiienaa.X
