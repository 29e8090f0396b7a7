import Derived.Test.YtcmaohhcbiienaaWB
/-! WC: calls that are given own variables, and may hand out some. -/
set_option linter.unusedVariables false
namespace Go.Proofs.Ytcmaohhcbiienaa.X
open Go.RowKit

section
variable {E : Env} {B U : Blk} {base lim : Nat} {g g1 g2 g' : Gh} {w w' : World} {ob ob1 ob2 ob' : ObF} {rt rt1 rt2 rt' : RtF} {nx nx1 nx2 nx' : Nat}

theorem initTm_at : ∀ {l : List AT} {k t : Nat}, initTm l k t = if k ≤ t then l.getD (t - k) .no else .no
  | [], k, t => by simp [initTm]
  | a :: l, k, t => by
    simp only [initTm]
    by_cases e : t = k
    · subst e; simp [upd_same]
    · rw [upd_ne _ _ e, initTm_at]
      by_cases h : k ≤ t
      · have h1 : k + 1 ≤ t := by omega
        obtain ⟨d, rfl⟩ : ∃ d, t = k + 1 + d := ⟨t - (k + 1), by omega⟩
        rw [if_pos h1, if_pos h, show k + 1 + d - (k + 1) = d by omega, show k + 1 + d - k = d + 1 by omega]
        simp
      · rw [if_neg h, if_neg (by omega)]
theorem map_init (xs : List AT) (f : AT → AT) : (List.range xs.length).map (fun t => f (initTm xs 0 t)) = xs.map f := by
  refine List.ext_getElem (by simp) fun i h1 h2 => ?_
  simp at h1 h2
  simp [initTm_at, h1]

theorem noDup_iff : ∀ {l : List Nat}, noDup l = true → l.Nodup
  | [], _ => List.nodup_nil
  | x :: l, h => by
    simp only [noDup, Bool.and_eq_true, Bool.not_eq_true', List.contains_eq_mem, decide_eq_false_iff_not] at h
    exact List.nodup_cons.2 ⟨h.1, noDup_iff h.2⟩
theorem posIn_mem : ∀ {l : List Nat} {o : Nat}, o ∈ l → l[posIn l o]? = some o
  | [], o, h => by cases h
  | x :: l, o, h => by
    simp only [posIn]
    by_cases e : o = x
    · rw [if_pos e]; simp [e]
    · rw [if_neg e]
      simp only [List.getElem?_cons_succ]
      exact posIn_mem ((List.mem_cons.1 h).resolve_left e)
theorem posIn_at : ∀ {l : List Nat} {i o : Nat}, l.Nodup → l[i]? = some o → posIn l o = i
  | [], i, o, _, h => by simp at h
  | x :: l, i, o, hn, h => by
    simp only [posIn]
    obtain ⟨h1, h2⟩ := List.nodup_cons.1 hn
    cases i with
    | zero => simp at h; rw [if_pos h.symm]
    | succ i =>
      have h' : l[i]? = some o := by simpa using h
      have hm := List.mem_of_getElem? h'
      rw [if_neg (fun e : o = x => h1 (e ▸ hm)), posIn_at h2 h']
theorem posIn_le : ∀ {l : List Nat} {o : Nat}, posIn l o ≤ l.length
  | [], o => Nat.le_refl _
  | x :: l, o => by
    simp only [posIn]
    split
    · exact Nat.zero_le _
    · simp only [List.length_cons]; exact Nat.succ_le_succ posIn_le

theorem inO_at {f : Nat → Nat} : ∀ {L : List Nat} {k q : Nat}, inO ob f L k q = if k ≤ q then (L[q - k]?).bind fun o => (ob o).map (renO f 0) else none
  | [], k, q => by simp [inO, noOb]
  | o :: L, k, q => by
    have ih := inO_at (f := f) (L := L) (k := k + 1) (q := q)
    have step : (if k + 1 ≤ q then (L[q - (k + 1)]?).bind fun o => (ob o).map (renO f 0) else none) = if k + 1 ≤ q then ((o :: L)[q - k]?).bind fun o => (ob o).map (renO f 0) else none := by
      split
      · rename_i h
        rw [show q - k = q - (k + 1) + 1 by omega]
        simp
      · rfl
    simp only [inO]
    cases hx : ob o with
    | some x =>
      simp only
      by_cases e : q = k
      · subst e
        simp [upd_same, hx]
      · rw [upd_ne _ _ e, ih, step]
        by_cases h : k ≤ q
        · rw [if_pos h, if_pos (by omega)]
        · rw [if_neg h, if_neg (by omega)]
    | none =>
      simp only
      rw [ih, step]
      by_cases e : q = k
      · subst e
        rw [if_neg (by omega), if_pos (Nat.le_refl _)]
        simp [hx]
      · by_cases h : k ≤ q
        · rw [if_pos h, if_pos (by omega)]
        · rw [if_neg h, if_neg (by omega)]
theorem takeO_at {L : List Nat} {q : Nat} : takeO ob L q = (L[q]?).bind fun o => (ob o).map (renO (posIn L) 0) := by
  unfold takeO
  rw [inO_at]
  simp

theorem renL_map {f : Nat → Nat} {sh : Nat} : ∀ {cs : List CV}, renL f sh cs = cs.map (renC f sh)
  | [] => rfl
  | c :: cs => by simp only [renL, List.map_cons, renL_map]
theorem renO_like {f : Nat → Nat} {sh : Nat} (x : Obj) : x.like (renO f sh x) := by
  cases x with
  | var cs => simp [renO, Obj.like, renL_map]
  | arr fz z rows => exact .refl _
  | mp => exact .refl _

/-- The same, by other numbers. -/
theorem RelC.ren {f : Nat → Nat} {sh : Nat} (hI : ∀ b i, g.I b i → g2.I b i) (hO : ∀ p x, ob p = some x → ob2 (f p) = some (renO f sh x) ∧ g2.φ (f p) = g.φ p)
    (hR : ∀ n, n ≠ 0 → n < nx → n + sh < nx2 ∧ (rt2 (n + sh) = true → rt n = true ∧ g2.γ (n + sh) = g.γ n)) {v : Value} {c : CV} (h : RelC g w ob rt nx v c) : RelC g2 w ob2 rt2 nx2 v (renC f sh c) := by
  induction h with
  | p k => exact .p (k.mono hI fun _ _ _ => rfl)
  | p0 k => exact .p0 (k.mono hI fun _ _ _ => rfl)
  | @pn n z v l h0 h1 k hg =>
    obtain ⟨r1, r2⟩ := hR n h0 h1
    simp only [renC, if_neg h0]
    exact .pn (by omega) r1 (k.mono hI fun _ _ _ => rfl) fun ht => by obtain ⟨a, b⟩ := r2 ht; exact b.trans (hg a)
  | @pt o off cs k =>
    obtain ⟨a, b⟩ := hO _ _ k
    rw [← b]
    exact .pt a
  | @mt o es k k' =>
    obtain ⟨a, b⟩ := hO _ _ k'
    rw [← b]
    exact .mt a
  | @pr o r off fz z rows k =>
    obtain ⟨a, b⟩ := hO _ _ k
    rw [← b]
    exact .pr a
  | @vw o lo n cap A fz z rows k h1 h2 h3 h4 h5 h6 =>
    obtain ⟨a, b⟩ := hO _ _ k
    exact .vw a h1 h2 h3 h4 h5 fun hn => by rw [b]; exact h6 hn
  | @cl f' caps cs hl hr ih =>
    simp only [renC, renL_map]
    refine .cl (by simpa using hl) fun j x v hx hv => ?_
    simp only [List.getElem?_map, Option.map_eq_some_iff] at hx
    obtain ⟨y, hy, rfl⟩ := hx
    exact ih j y v hy hv
theorem RelL.ren {f : Nat → Nat} {sh : Nat} (hC : ∀ {v : Value} {c : CV}, RelC g w ob rt nx v c → RelC g2 w ob2 rt2 nx2 v (renC f sh c)) {vs : Array Value} {cs : List CV} (h : RelL g w ob rt nx vs cs) : RelL g2 w ob2 rt2 nx2 vs (renL f sh cs) := by
  rw [renL_map]
  refine ⟨by simpa using h.1, fun j x v hx hv => ?_⟩
  simp only [List.getElem?_map, Option.map_eq_some_iff] at hx
  obtain ⟨y, hy, rfl⟩ := hx
  exact hC (h.2 j y v hy hv)
theorem RelA1.ren {f : Nat → Nat} {sh : Nat} (hC : ∀ {v : Value} {c : CV}, RelC g w ob rt nx v c → RelC g2 w ob2 rt2 nx2 v (renC f sh c)) {v : Value} {x : AT} (h : RelA1 g w ob rt nx v x) : RelA1 g2 w ob2 rt2 nx2 v (renT f sh x) := by
  cases h with
  | no => exact .no
  | one h => exact .one (hC h)
  | agg h => exact .agg (RelL.ren hC h)
theorem atC_ren {f : Nat → Nat} {sh : Nat} (t : Bool × List CV) : atC (t.1, renL f sh t.2) = renT f sh (atC t) := by
  obtain ⟨b, l⟩ := t
  cases b with
  | true => rfl
  | false =>
    match l with
    | [] => rfl
    | [x] => rfl
    | _ :: _ :: _ => rfl
theorem RelA.ren {f : Nat → Nat} {sh : Nat} (hC : ∀ {v : Value} {c : CV}, RelC g w ob rt nx v c → RelC g2 w ob2 rt2 nx2 v (renC f sh c)) {v : Value} {x : AT} (h : RelA g w ob rt nx v x) : RelA g2 w ob2 rt2 nx2 v (renT f sh x) := by
  cases h with
  | of h => exact .of (RelA1.ren hC h)
  | tup hl h =>
    refine .tup (by simpa using hl) fun j t v ht hv => ?_
    simp only [List.getElem?_map, Option.map_eq_some_iff] at ht
    obtain ⟨y, hy, rfl⟩ := ht
    rw [atC_ren]
    exact RelA1.ren hC (h j y v hy hv)
theorem RelObj.ren {f : Nat → Nat} {sh : Nat} (hI : g2.I = g.I) (hC : ∀ {v : Value} {c : CV}, RelC g w ob rt nx v c → RelC g2 w ob2 rt2 nx2 v (renC f sh c)) {b : Nat} {x : Obj} (h : RelObj g w ob rt nx b x) : RelObj g2 w ob2 rt2 nx2 b (renO f sh x) := by
  cases h with
  | nil => exact .nil
  | var e vs h1 h2 h3 => exact .var e vs h1 (RelL.ren hC h2) (by rw [hI]; exact h3)
  | mp h1 h2 => exact .mp h1 (by rw [hI]; exact h2)
  | arr e vs h1 h2 h3 h4 h5 h6 h7 => exact .arr e vs h1 h2 h3 h4 (by rw [hI]; exact h5) (by rw [hI]; exact h6) (by rw [hI]; exact h7)

/-- Numbered as on a list. -/
def tk (g : Gh) (L : List Nat) : Gh := { g with φ := fun i => g.φ (L.getD i 0) }
theorem take_obj {L : List Nat} (hn : L.Nodup) (hall : ∀ o, (ob o).isSome → o ∈ L) : ∀ p x, ob p = some x → takeO ob L (posIn L p) = some (renO (posIn L) 0 x) ∧ (tk g L).φ (posIn L p) = g.φ p := by
  intro p x hx
  have := posIn_mem (hall p (by rw [hx]; rfl))
  refine ⟨by rw [takeO_at, this]; simp [hx], ?_⟩
  simp [tk, List.getD_eq_getElem?_getD, this]
theorem take_rel {L : List Nat} (hn : L.Nodup) (hall : ∀ o, (ob o).isSome → o ∈ L) {v : Value} {c : CV} (h : RelC g w ob rt nx v c) : RelC (tk g L) w (takeO ob L) rt nx v (renC (posIn L) 0 c) :=
  RelC.ren (g := g) (g2 := tk g L) (w := w) (ob := ob) (ob2 := takeO ob L) (rt := rt) (rt2 := rt) (nx := nx) (nx2 := nx) (sh := 0) (fun _ _ q => q) (take_obj hn hall) (fun n _ h1 => ⟨h1, fun ht => ⟨ht, rfl⟩⟩) h
theorem RelM.take {G : Nat → Option (List PV)} (h : RelM G g w ob rt nx B) {L : List Nat} (hn : L.Nodup) (hall : ∀ o, (ob o).isSome → o ∈ L) (h1 : ∀ b, U b → b < w.heap.size) (h2 : ∀ o x, ob o = some x → x.solid → ¬ U (g.φ o))
    (h3 : ∀ n, n ≠ 0 → n < nx → rt n = true → ∀ b, g.β n = some b → ¬ U b) : RelM G (tk g L) w (takeO ob L) rt nx U := by
  have from' : ∀ i x, takeO ob L i = some x → ∃ o y, L[i]? = some o ∧ ob o = some y ∧ x = renO (posIn L) 0 y ∧ (tk g L).φ i = g.φ o := fun i x hx => by
    rw [takeO_at] at hx
    cases ho : L[i]? with
    | none => rw [ho] at hx; cases hx
    | some o =>
      rw [ho] at hx
      simp only [Option.bind_some, Option.map_eq_some_iff] at hx
      obtain ⟨y, hy, rfl⟩ := hx
      exact ⟨o, y, rfl, hy, rfl, by simp [tk, List.getD_eq_getElem?_getD, ho]⟩
  refine ⟨h.pos, h.glob, h1, fun i x hx => ?_, fun i j x y hx hy sx sy hφ => ?_, fun n n0 hn' ht => ?_, h.apart, h.bnd⟩
  · obtain ⟨o, y, _, hy, rfl, hφ⟩ := from' i x hx
    rw [hφ]
    exact ⟨RelObj.ren (g := g) (g2 := tk g L) rfl (fun k => take_rel hn hall k) (h.obj o y hy).1, fun hs => h2 o y hy ((renO_like y).solid.2 hs)⟩
  · obtain ⟨o, a, ho, ha, rfl, e1⟩ := from' i x hx
    obtain ⟨p, c, hp, hc, rfl, e2⟩ := from' j y hy
    rw [e1, e2] at hφ
    have := h.inj o p a c ha hc ((renO_like a).solid.2 sx) ((renO_like c).solid.2 sy) hφ
    subst this
    rw [← posIn_at hn ho, ← posIn_at hn hp]
  · cases h.own n n0 hn' ht with
    | full A k z q1 q2 => exact .full A k z q1 q2
    | own b' len cap z ee cur q1 q2 q3 q4 q5 q6 q7 q8 q9 =>
      refine .own b' len cap z ee cur q1 q2 (h3 n n0 hn' ht b' q2) q4 q5 q6 q7 q8 fun i x hx hs => ?_
      obtain ⟨o, y, _, hy, rfl, hφ⟩ := from' i x hx
      rw [hφ]
      exact q9 o y hy ((renO_like y).solid.2 hs)

theorem backO_mem {f : Nat → Nat} {sh : Nat} : ∀ {tg : List Nat} {p q : Nat} {y : Obj}, (q, y) ∈ backO ob' f sh tg p ↔ ∃ i x, tg[i]? = some q ∧ ob' (p + i) = some x ∧ y = renO f sh x
  | [], p, q, y => by simp [backO]
  | t :: tg, p, q, y => by
    have ih := backO_mem (f := f) (sh := sh) (tg := tg) (p := p + 1) (q := q) (y := y)
    simp only [backO]
    constructor
    · intro h
      split at h
      · rename_i x hx
        rcases List.mem_cons.1 h with h | h
        · cases h
          exact ⟨0, x, rfl, hx, rfl⟩
        · obtain ⟨i, x, h1, h2, h3⟩ := ih.1 h
          exact ⟨i + 1, x, by simpa using h1, by rw [← h2]; congr 1; omega, h3⟩
      · obtain ⟨i, x, h1, h2, h3⟩ := ih.1 h
        exact ⟨i + 1, x, by simpa using h1, by rw [← h2]; congr 1; omega, h3⟩
    · rintro ⟨i, x, h1, h2, rfl⟩
      cases i with
      | zero =>
        simp at h1
        subst h1
        rw [Nat.add_zero] at h2
        rw [h2]
        exact List.mem_cons_self ..
      | succ i =>
        have := ih.2 ⟨i, x, by simpa using h1, by rw [← h2]; congr 1; omega, rfl⟩
        split
        · exact List.mem_cons_of_mem _ this
        · exact this
theorem putAll_find : ∀ {l : List (Nat × Obj)} {ob : ObF} {q : Nat}, (∃ x, (q, x) ∈ l ∧ putAll ob l q = some x) ∨ ((∀ x, (q, x) ∉ l) ∧ putAll ob l q = ob q)
  | [], ob, q => .inr ⟨fun x h => (by cases h), rfl⟩
  | (p, y) :: l, ob, q => by
    rcases putAll_find (l := l) (ob := upd ob p (some y)) (q := q) with ⟨x, h1, h2⟩ | ⟨h1, h2⟩
    · exact .inl ⟨x, List.mem_cons_of_mem _ h1, h2⟩
    · by_cases e : q = p
      · subst e
        exact .inl ⟨y, List.mem_cons_self .., by show putAll (upd ob q (some y)) l q = _; rw [h2, upd_same]⟩
      · refine .inr ⟨fun x h => ?_, by show putAll (upd ob p (some y)) l q = _; rw [h2, upd_ne _ _ e]⟩
        rcases List.mem_cons.1 h with h | h
        · cases h; exact e rfl
        · exact h1 x h

/-- What a call was given comes back, and what it hands out. -/
theorem merge {G : Nat → Option (List PV)} (hm : RelM G g w ob rt nx B) (hlab : ∀ o, (ob o).isSome → o < lim) {os news used : List Nat} (hU1 : ∀ b, B b → U b) (hU2 : ∀ o x, ob o = some x → x.solid → o ∉ os → U (g.φ o))
    (hU3 : ∀ n, n ≠ 0 → n < nx → rt n = true → n ∉ used → ∀ b, g.β n = some b → U b) (hos : ∀ o ∈ os, (ob o).isSome) (hnews : ∀ q ∈ news, ob q = none ∧ q < lim) (hn1 : os.Nodup) (hn2 : news.Nodup)
    (hg1 : g1.I = g.I) (h1 : ∀ i o x, os[i]? = some o → ob o = some x → ∃ x1, ob1 i = some x1 ∧ x.like x1 ∧ g1.φ i = g.φ o)
    (he : Ext U os.length g1 w ob1 rt1 nx1 g' w' ob' rt' nx') (hm' : RelM G g' w' ob' rt' nx' U) (hlab' : ∀ o, (ob' o).isSome → o < (os ++ news).length) :
    ∃ g2 : Gh, Ext B lim g w ob rt nx g2 w' (putAll ob (backO ob' (fun p => (os ++ news).getD p 0) nx (os ++ news) 0)) (fun n => if n < nx then rt n && !(used.contains n) else !(n == nx) && rt' (n - nx)) (nx + nx') ∧
      RelM G g2 w' (putAll ob (backO ob' (fun p => (os ++ news).getD p 0) nx (os ++ news) 0)) (fun n => if n < nx then rt n && !(used.contains n) else !(n == nx) && rt' (n - nx)) (nx + nx') B ∧
      (∀ o, (putAll ob (backO ob' (fun p => (os ++ news).getD p 0) nx (os ++ news) 0) o).isSome → o < lim) ∧
      ∀ {v : Value} {c : CV}, RelC g' w' ob' rt' nx' v c → RelC g2 w' (putAll ob (backO ob' (fun p => (os ++ news).getD p 0) nx (os ++ news) 0)) (fun n => if n < nx then rt n && !(used.contains n) else !(n == nx) && rt' (n - nx)) (nx + nx') v
        (renC (fun p => (os ++ news).getD p 0) nx c) := by
  generalize hrt2 : (fun n => if n < nx then rt n && !(used.contains n) else !(n == nx) && rt' (n - nx) : RtF) = rt2
  generalize htg : os ++ news = tg at hlab' ⊢
  have hnt : tg.Nodup := by
    rw [← htg]
    refine List.nodup_append.2 ⟨hn1, hn2, fun a ha b hb e => ?_⟩
    subst e
    have := hos a ha
    rw [(hnews a hb).1] at this
    cases this
  have hbk : ∀ p q, tg[p]? = some q → tg.getD p 0 = q := fun p q h => by simp [List.getD_eq_getElem?_getD, h]
  generalize hob2 : putAll ob (backO ob' (fun p => tg.getD p 0) nx tg 0) = ob2
  -- where a variable comes from
  have look : ∀ q, (∃ p x, tg[p]? = some q ∧ ob' p = some x ∧ ob2 q = some (renO (fun p => tg.getD p 0) nx x)) ∨ ((∀ p, tg[p]? = some q → ob' p = none) ∧ ob2 q = ob q) := fun q => by
    rcases putAll_find (l := backO ob' (fun p => tg.getD p 0) nx tg 0) (ob := ob) (q := q) with ⟨y, h1, h2⟩ | ⟨h1, h2⟩
    · obtain ⟨i, x, a, b, rfl⟩ := backO_mem.1 h1
      rw [Nat.zero_add] at b
      exact .inl ⟨i, x, a, b, by rw [← hob2]; exact h2⟩
    · refine .inr ⟨fun p hp => ?_, by rw [← hob2]; exact h2⟩
      cases hx : ob' p with
      | none => rfl
      | some x => exact absurd (backO_mem.2 ⟨p, x, hp, by rw [Nat.zero_add]; exact hx, rfl⟩) (h1 _)
  have there : ∀ p x, ob' p = some x → ∃ q, tg[p]? = some q ∧ ob2 q = some (renO (fun p => tg.getD p 0) nx x) := fun p x hx => by
    have hp := hlab' p (by rw [hx]; rfl)
    have hq := List.getElem?_eq_getElem hp
    refine ⟨tg[p], hq, ?_⟩
    rcases look tg[p] with ⟨p', x', a, b, c⟩ | ⟨a, _⟩
    · have e1 := posIn_at hnt a
      have e2 := posIn_at hnt hq
      have : p' = p := e1.symm.trans e2
      subst this
      rw [hx] at b
      cases b
      exact c
    · rw [a p hq] at hx; cases hx
  have inTg : ∀ i o, os[i]? = some o → tg[i]? = some o := fun i o h => by rw [← htg, List.getElem?_append_left (List.getElem?_eq_some_iff.1 h).1]; exact h
  have osNew : ∀ i o x, os[i]? = some o → ob o = some x → ∃ y, ob' i = some y ∧ x.like y ∧ g'.φ i = g.φ o := fun i o x hi hx => by
    obtain ⟨x1, a, b, c⟩ := h1 i o x hi hx
    have hil := (List.getElem?_eq_some_iff.1 hi).1
    obtain ⟨y, hy, l⟩ := he.like i x1 hil a
    exact ⟨y, hy, b.trans l, (he.φ i hil (by rw [a]; rfl)).trans c⟩
  let φ2 : Nat → Nat := fun q => if q ∈ tg ∧ (ob' (posIn tg q)).isSome then g'.φ (posIn tg q) else g.φ q
  have φnew : ∀ p q x, tg[p]? = some q → ob' p = some x → φ2 q = g'.φ p := fun p q x hq hx => by
    have e := posIn_at hnt hq
    show (if _ then _ else _) = _
    rw [if_pos ⟨List.mem_of_getElem? hq, by rw [e, hx]; rfl⟩, e]
  have φold : ∀ q, (∀ p, tg[p]? = some q → ob' p = none) → φ2 q = g.φ q := fun q h => by
    show (if _ then _ else _) = _
    rw [if_neg]
    rintro ⟨a, b⟩
    rw [h _ (posIn_mem a)] at b
    cases b
  have notOs : ∀ q, (ob q).isSome → (∀ p, tg[p]? = some q → ob' p = none) → q ∉ os := fun q hs h hq => by
    obtain ⟨x, hx⟩ := Option.isSome_iff_exists.1 hs
    have hi := posIn_mem hq
    obtain ⟨y, hy, _⟩ := osNew _ q x hi hx
    rw [h _ (inTg _ _ hi)] at hy
    cases hy
  let γ2 : Nat → Value × Nat := fun n => if n < nx then g.γ n else g'.γ (n - nx)
  let β2 : Nat → Option Nat := fun n => if n < nx then g.β n else g'.β (n - nx)
  have rtLo : ∀ n, n < nx → rt2 n = true → rt n = true ∧ n ∉ used := fun n hn ht => by
    rw [← hrt2] at ht
    simp only [if_pos hn, Bool.and_eq_true, Bool.not_eq_true', List.contains_eq_mem, decide_eq_false_iff_not] at ht
    exact ht
  have rtHi : ∀ n, ¬ n < nx → rt2 n = true → n - nx ≠ 0 ∧ rt' (n - nx) = true := fun n hn ht => by
    rw [← hrt2] at ht
    simp only [if_neg hn, Bool.and_eq_true, Bool.not_eq_true', beq_eq_false_iff_ne] at ht
    exact ⟨by have := ht.1; omega, ht.2⟩
  have hE : Ext B lim g w ob rt nx ⟨g'.I, φ2, γ2, β2⟩ w' ob2 rt2 (nx + nx') := by
    refine ⟨he.below.mono hU1, fun b i h => he.I b i (by rw [hg1]; exact h), fun b i hb h => by have := he.old b i (hU1 b hb) h; rwa [hg1] at this, fun b i h => he.cell b i (by rw [hg1]; exact h), fun o x _ hx => ?_, fun o _ ho => ?_, fun n hn ht => ?_, Nat.le_add_right ..⟩
    · rcases look o with ⟨p, y, a, b, c⟩ | ⟨a, b⟩
      · refine ⟨_, c, ?_⟩
        have hmem := List.mem_of_getElem? a
        rw [← htg] at hmem
        rcases List.mem_append.1 hmem with h | h
        · have hi := posIn_mem h
          obtain ⟨z, hz, l, _⟩ := osNew _ o x hi hx
          have e1 := posIn_at hnt (inTg _ _ hi)
          have e2 := posIn_at hnt a
          rw [← e1, e2] at hz
          rw [b] at hz
          cases hz
          exact l.trans (renO_like _)
        · rw [(hnews o h).1] at hx; cases hx
      · exact ⟨x, by rw [b]; exact hx, .refl x⟩
    · obtain ⟨x, hx⟩ := Option.isSome_iff_exists.1 ho
      rcases look o with ⟨p, y, a, b, c⟩ | ⟨a, b⟩
      · show φ2 o = _
        rw [φnew p o y a b]
        have hmem := List.mem_of_getElem? a
        rw [← htg] at hmem
        rcases List.mem_append.1 hmem with h | h
        · have hi := posIn_mem h
          obtain ⟨z, hz, _, l⟩ := osNew _ o x hi hx
          have e1 := posIn_at hnt (inTg _ _ hi)
          have e2 := posIn_at hnt a
          rw [← e1, e2] at l
          exact l
        · rw [(hnews o h).1] at hx; cases hx
      · exact φold o a
    · exact ⟨(rtLo n hn ht).1, by show (if _ then _ else _) = _; rw [if_pos hn]⟩
  have hC : ∀ {v : Value} {c : CV}, RelC g' w' ob' rt' nx' v c → RelC ⟨g'.I, φ2, γ2, β2⟩ w' ob2 rt2 (nx + nx') v (renC (fun p => tg.getD p 0) nx c) := fun h =>
    RelC.ren (g := g') (g2 := ⟨g'.I, φ2, γ2, β2⟩) (w := w') (ob := ob') (ob2 := ob2) (rt := rt') (rt2 := rt2) (nx := nx') (nx2 := nx + nx') (sh := nx) (f := fun p => tg.getD p 0) (fun _ _ q => q) (fun p x hx => by
      obtain ⟨q, a, b⟩ := there p x hx
      simp only [hbk p q a]
      exact ⟨b, φnew p q x a hx⟩) (fun n n0 hn => ⟨by omega, fun ht => by
        have h2 := rtHi (n + nx) (by omega) ht
        rw [Nat.add_sub_cancel] at h2
        exact ⟨h2.2, by show (if _ then _ else _) = _; rw [if_neg (by omega), Nat.add_sub_cancel]⟩⟩) h
  refine ⟨⟨g'.I, φ2, γ2, β2⟩, hE, ⟨by have := hm.pos; omega, fun k cs hk => (hm.glob k cs hk).ext hE, fun b hb => Nat.lt_of_lt_of_le (hm.size b hb) he.below.size, fun q y hq => ?_, fun q q' y y' hq hq' sy sy' hφ => ?_, fun n n0 hn ht => ?_, fun n m b n0 m0 hn hm0 tn tm bn bm => ?_, hm'.bnd⟩, fun q hq => ?_, hC⟩
  · rcases look q with ⟨p, x, a, b, c⟩ | ⟨a, b⟩
    · rw [hq] at c
      cases c
      show RelObj _ _ _ _ _ (φ2 q) _ ∧ (_ → ¬ B (φ2 q))
      rw [φnew p q x a b]
      obtain ⟨k1, k2⟩ := hm'.obj p x b
      exact ⟨RelObj.ren (g := g') (g2 := ⟨g'.I, φ2, γ2, β2⟩) rfl hC k1, fun hs hb => k2 ((renO_like x).solid.2 hs) (hU1 _ hb)⟩
    · rw [b] at hq
      have hno := notOs q (by rw [hq]; rfl) a
      obtain ⟨k1, k2⟩ := hm.obj q y hq
      show RelObj _ _ _ _ _ (φ2 q) _ ∧ (_ → ¬ B (φ2 q))
      rw [φold q a]
      refine ⟨k1.ext hE hlab (fun hs => he.below.block _ (hU2 q y hq hs hno)) fun hs i hi => ?_, k2⟩
      have := he.old _ i (hU2 q y hq hs hno) hi
      rwa [hg1] at this
  · have cases' : ∀ q y, ob2 q = some y → y.solid → (∃ p x, tg[p]? = some q ∧ ob' p = some x ∧ x.solid ∧ φ2 q = g'.φ p ∧ ¬ U (φ2 q)) ∨ (ob q = some y ∧ φ2 q = g.φ q ∧ U (φ2 q)) := fun q y hq sy => by
      rcases look q with ⟨p, x, a, b, c⟩ | ⟨a, b⟩
      · rw [hq] at c
        cases c
        have sx := (renO_like x).solid.2 sy
        exact .inl ⟨p, x, a, b, sx, φnew p q x a b, by rw [φnew p q x a b]; exact (hm'.obj p x b).2 sx⟩
      · rw [b] at hq
        exact .inr ⟨hq, φold q a, by rw [φold q a]; exact hU2 q y hq sy (notOs q (by rw [hq]; rfl) a)⟩
    have hφ : φ2 q = φ2 q' := hφ
    rcases cases' q y hq sy with ⟨p, x, a, b, c, d, e⟩ | ⟨a, b, c⟩ <;> rcases cases' q' y' hq' sy' with ⟨p', x', a', b', c', d', e'⟩ | ⟨a', b', c'⟩
    · rw [d, d'] at hφ
      have := hm'.inj p p' x x' b b' c c' hφ
      subst this
      rw [a] at a'
      exact Option.some.inj a'
    · rw [hφ] at e; exact absurd c' e
    · rw [hφ] at c; exact absurd c e'
    · rw [b, b'] at hφ
      exact hm.inj q q' y y' a a' sy sy' hφ
  · have apartO : ∀ b, (U b → (∀ o x, ob o = some x → x.solid → g.φ o ≠ b)) → (¬ U b → (∀ o x, ob' o = some x → x.solid → g'.φ o ≠ b)) → ∀ o x, ob2 o = some x → x.solid → φ2 o ≠ b := fun b k1 k2 o x hx hs => by
      rcases look o with ⟨p, y, a, c, d⟩ | ⟨a, c⟩
      · rw [hx] at d
        cases d
        have sy := (renO_like y).solid.2 hs
        rw [φnew p o y a c]
        by_cases hb : U b
        · exact fun e => (hm'.obj p y c).2 sy (e ▸ hb)
        · exact k2 hb p y c sy
      · rw [c] at hx
        rw [φold o a]
        by_cases hb : U b
        · exact k1 hb o x hx hs
        · exact fun e => hb (e ▸ hU2 o x hx hs (notOs o (by rw [hx]; rfl) a))
    by_cases hlo : n < nx
    · obtain ⟨t1, t2⟩ := rtLo n hlo ht
      have k := hm.own n n0 hlo t1
      refine k.ext (by show (if _ then _ else _) = _; rw [if_pos hlo]) (by show (if _ then _ else _) = _; rw [if_pos hlo]) fun b hb => ?_
      have hub := hU3 n n0 hlo t1 t2 b hb
      refine ⟨he.below.block b hub, fun i hi => by have := he.old b i hub hi; rwa [hg1] at this, apartO b (fun _ => ?_) fun h => absurd hub h⟩
      cases k with
      | full A k z q1 q2 => rw [q2] at hb; cases hb
      | own b' len cap z ee cur q1 q2 q3 q4 q5 q6 q7 q8 q9 => rw [q2] at hb; cases hb; exact q9
    · obtain ⟨m0, t1⟩ := rtHi n hlo ht
      cases hm'.own (n - nx) m0 (by omega) t1 with
      | full A k z q1 q2 => exact .full A k z (by show (if _ then _ else _) = _; rw [if_neg hlo]; exact q1) (by show (if _ then _ else _) = _; rw [if_neg hlo]; exact q2)
      | own b' len cap z ee cur q1 q2 q3 q4 q5 q6 q7 q8 q9 =>
        exact .own b' len cap z ee cur (by show (if _ then _ else _) = _; rw [if_neg hlo]; exact q1) (by show (if _ then _ else _) = _; rw [if_neg hlo]; exact q2) (fun hb => q3 (hU1 _ hb)) q4 q5 q6 q7 q8
          (apartO b' (fun h => absurd h q3) fun _ => q9)
  · have up : ∀ n, n < nx → β2 n = g.β n := fun n h => by show (if _ then _ else _) = _; rw [if_pos h]
    have dn : ∀ n, ¬ n < nx → β2 n = g'.β (n - nx) := fun n h => by show (if _ then _ else _) = _; rw [if_neg h]
    have side : ∀ n, ¬ n < nx → n < nx + nx' → rt2 n = true → β2 n = some b → ¬ U b := fun n h h' t hb => by
      obtain ⟨m0, t1⟩ := rtHi n h t
      rw [dn n h] at hb
      exact ((hm'.own (n - nx) m0 (by omega) t1).lt hb).2
    have bn : β2 n = some b := bn
    have bm : β2 m = some b := bm
    by_cases h1 : n < nx <;> by_cases h2 : m < nx
    · obtain ⟨t1, _⟩ := rtLo n h1 tn
      obtain ⟨t2, _⟩ := rtLo m h2 tm
      rw [up n h1] at bn
      rw [up m h2] at bm
      exact hm.apart n m b n0 m0 h1 h2 t1 t2 bn bm
    · obtain ⟨t1, u1⟩ := rtLo n h1 tn
      rw [up n h1] at bn
      exact absurd (hU3 n n0 h1 t1 u1 b bn) (side m h2 hm0 tm bm)
    · obtain ⟨t1, u1⟩ := rtLo m h2 tm
      rw [up m h2] at bm
      exact absurd (hU3 m m0 h2 t1 u1 b bm) (side n h1 hn tn bn)
    · obtain ⟨a0, t1⟩ := rtHi n h1 tn
      obtain ⟨c0, t2⟩ := rtHi m h2 tm
      rw [dn n h1] at bn
      rw [dn m h2] at bm
      have := hm'.apart (n - nx) (m - nx) b a0 c0 (by omega) (by omega) t1 t2 bn bm
      omega
  · rcases look q with ⟨p, x, a, b, c⟩ | ⟨a, b⟩
    · have hmem := List.mem_of_getElem? a
      rw [← htg] at hmem
      rcases List.mem_append.1 hmem with h | h
      · exact hlab q (hos q h)
      · exact (hnews q h).2
    · rw [b] at hq
      exact hlab q hq
end
end Go.Proofs.Ytcmaohhcbiienaa.X
