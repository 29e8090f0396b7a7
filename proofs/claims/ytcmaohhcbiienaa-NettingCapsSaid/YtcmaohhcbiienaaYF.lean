import Derived.Test.YtcmaohhcbiienaaYE
/-! YF: a function's text is what the evaluator says; calls within calls. -/
set_option linter.unusedVariables false
namespace Go.Proofs.Ytcmaohhcbiienaa.X
open Go.RowKit

section
variable {E : Env} {gen : FuncId → Nat → Bool} {H : FuncId → Hint} {call : CallF} {base : Nat}

theorem ResRel.vals {g : Gh} {w : World} {ob : ObF} {rt : RtF} {nx : Nat} {v : Value} {l : List AT} (h : ResRel g w ob rt nx v l) :
    ∃ vs : List Value, RelAs g w ob rt nx vs l ∧ ∀ (g' : Gh) (w' : World) (ob' : ObF) (rt' : RtF) (nx' : Nat) (rs : List AT), RelAs g' w' ob' rt' nx' vs rs → ResRel g' w' ob' rt' nx' v rs := by
  have key : (∃ vs : Array Value, v = .tuple vs ∧ RelAs g w ob rt nx vs.toList l) → l.length ≠ 1 → ∃ vs : List Value, RelAs g w ob rt nx vs l ∧ ∀ (g' : Gh) (w' : World) (ob' : ObF) (rt' : RtF) (nx' : Nat) (rs : List AT), RelAs g' w' ob' rt' nx' vs rs → ResRel g' w' ob' rt' nx' v rs := by
    rintro ⟨vs, rfl, hq⟩ hl
    refine ⟨vs.toList, hq, fun g' w' ob' rt' nx' rs hr => ?_⟩
    have e := hr.1.symm.trans hq.1
    match rs, e, hr with
    | [], _, hr => exact ⟨vs, rfl, hr⟩
    | [x], e, hr => exact absurd e.symm hl
    | _ :: _ :: _, _, hr => exact ⟨vs, rfl, hr⟩
  match l, h with
  | [x], h =>
    refine ⟨[v], ⟨rfl, fun i y u hy hu => ?_⟩, fun g' w' ob' rt' nx' rs hr => ?_⟩
    · cases i with
      | zero => simp at hy hu; subst hy; subst hu; exact h
      | succ i => simp at hy
    · match rs, hr with
      | [y], hr => exact hr.2 0 y v rfl rfl
      | [], hr => have := hr.1; simp at this
      | _ :: _ :: _, hr => have := hr.1; simp at this
  | [], h => exact key h (by simp)
  | _ :: _ :: _, h => exact key h (by simp)

/-- What is handed back, and out. -/
theorem leave_ok {B : Blk} {nx0 nx' : Nat} {g0 g : Gh} {w0 w : World} {ob0 ob' : ObF} {rt0 rt' : RtF} {s : St} (hm : RelM E.G g w s.ob s.rt s.nx B) (h0 : 0 < nx0) (he : Ext B base g0 w0 ob0 rt0 nx0 g w s.ob s.rt s.nx) {rs0 rs : List AT} {v : Value}
    (hres : ResRel g w s.ob s.rt s.nx v rs0) (h : leave base nx0 s rs0 = some (rs, ob', rt', nx')) :
    ∃ g', Ext B base g0 w0 ob0 rt0 nx0 g' w ob' rt' nx' ∧ RelM E.G g' w ob' rt' nx' B ∧ (∀ o, (ob' o).isSome → o < base + 4) ∧ ResRel g' w ob' rt' nx' v rs := by
  obtain ⟨vs, hvs, hmk⟩ := hres.vals
  unfold leave at h
  split at h
  · rename_i s1 hh
    simp only at h
    split at h
    · rename_i hc
      obtain ⟨hnd, hlen, _⟩ := hc
      simp only [Option.some.injEq, Prod.mk.injEq] at h
      obtain ⟨rfl, rfl, rfl, rfl⟩ := h
      obtain ⟨γ2, β2, a1, a2, a3, a4, a5, a6, a7, a8, a9⟩ := head_core (base := base) (nx0 := nx0) (vis := List.range base) (s := ⟨initTm rs0 0, s.ob, s.rt, s.nx⟩) (ev := fun t => vs.getD t undef) hm h0 he.nx (fun t => by
        simp only [initTm_at, Nat.zero_le, if_true, Nat.sub_zero]
        by_cases ht : t < rs0.length
        · have h1 : rs0[t]? = some rs0[t] := List.getElem?_eq_getElem ht
          have htv : t < vs.length := by rw [hvs.1]; exact ht
          have h2 : vs[t]? = some vs[t] := List.getElem?_eq_getElem htv
          simp only [List.getD_eq_getElem?_getD, h1, h2, Option.getD_some]
          exact hvs.2 t _ _ h1 h2
        · simp only [List.getD_eq_getElem?_getD, List.getElem?_eq_none (Nat.le_of_not_lt ht), Option.getD_none]
          exact .of .no) (fun o _ ho => List.mem_range.2 ho) hh
      simp only [map_init rs0 (coldT s.ob)] at a4 a7 a8
      generalize hL : List.range base ++ ((seeO s.ob (rs0.map (coldT s.ob)) (List.range base)).filter fun o => decide (base ≤ o)).reverse = L at hnd hlen ⊢
      have hn1 := noDup_iff hnd
      have hall : ∀ o, (s1.ob o).isSome → o ∈ L := fun o ho => by
        rw [← hL]
        rcases Nat.lt_or_ge o base with hb | hb
        · exact List.mem_append_left _ (List.mem_range.2 hb)
        · exact List.mem_append_right _ (List.mem_reverse.2 (List.mem_filter.2 ⟨a8 o ho, by simpa using hb⟩))
      have hlow : ∀ o, o < base → L[o]? = some o := fun o ho => by
        rw [← hL, List.getElem?_append_left (by simpa using ho)]
        simp [ho]
      have hM := RelM.take (U := B) a1 hn1 hall hm.size (fun o x hx hs => (a1.obj o x hx).2 hs) (fun n n0 hn ht b hb => ((a1.own n n0 hn ht).lt hb).2)
      refine ⟨tk ⟨g.I, g.φ, γ2, β2⟩ L, ⟨he.below, he.I, he.old, he.cell, fun o x ho hx => ?_, fun o ho hs => ?_, fun n hn ht => ?_, a6⟩, hM, fun i hi => ?_, hmk _ _ _ _ _ _ ⟨by rw [hvs.1]; simp, fun i y u hy hu => ?_⟩⟩
      · obtain ⟨y, hy, l⟩ := he.like o x ho hx
        obtain ⟨z, hz, l'⟩ := a4 o y hy (.inl ho)
        exact ⟨renO (posIn L) 0 z, by rw [takeO_at, hlow o ho]; simp [hz], (l.trans l').trans (renO_like z)⟩
      · rw [← he.φ o ho hs]
        show g.φ (L.getD o 0) = g.φ o
        rw [List.getD_eq_getElem?_getD, hlow o ho]
        rfl
      · obtain ⟨h1, h2⟩ := a5 n hn ht
        obtain ⟨h3, h4⟩ := he.rt n hn h1
        exact ⟨h3, h2.trans h4⟩
      · rw [takeO_at] at hi
        rcases Nat.lt_or_ge i L.length with h | h
        · omega
        · rw [List.getElem?_eq_none h] at hi; cases hi
      · simp only [List.getElem?_map, Option.map_eq_some_iff] at hy
        obtain ⟨j, hj, rfl⟩ := hy
        obtain ⟨_, hji⟩ := List.getElem?_eq_some_iff.1 hj
        simp at hji
        subst hji
        have := RelA.ren (fun k => take_rel hn1 hall k) (a2 i)
        rw [List.getD_eq_getElem?_getD, hu] at this
        exact this
    · cases h
  · cases h

/-- What is handed back by a call that hands out nothing. -/
theorem back_ok {B : Blk} {nx0 nx' : Nat} {g0 g : Gh} {w0 w : World} {ob0 ob' : ObF} {rt0 rt' : RtF} {s : St} (hm : RelM E.G g w s.ob s.rt s.nx B) (hlab : ∀ o, (s.ob o).isSome → o < base + 16384) (he : Ext B base g0 w0 ob0 rt0 nx0 g w s.ob s.rt s.nx) {rs0 rs : List AT} {v : Value}
    (hrel : ResRel g w s.ob s.rt s.nx v rs0) (hr : (if (List.range base).all (cleanO base s.ob) then (backAll base s.ob rs0).map fun rs => (rs, obH base s.ob, s.rt, s.nx) else none) = some (rs, ob', rt', nx')) :
    ∃ g', Ext B base g0 w0 ob0 rt0 nx0 g' w ob' rt' nx' ∧ RelM E.G g' w ob' rt' nx' B ∧ (∀ o, (ob' o).isSome → o < base) ∧ ResRel g' w ob' rt' nx' v rs := by
  split at hr
  · rename_i hclean
    simp only [Option.map_eq_some_iff, Prod.mk.injEq] at hr
    obtain ⟨rs', hrs, rfl, rfl, rfl, rfl⟩ := hr
    obtain ⟨hb1, hb2⟩ := backAll_at hrs
    obtain ⟨g2, x1, x2, x3, x4, x5⟩ := icy_all (endsC base (rs0.flatMap seenT)) hm hlab
    have hends : ∀ o, o < base → o ∉ endsC base (rs0.flatMap seenT) := fun o ho hm => by
      have := (List.mem_filter.1 hm).2
      simp at this
      omega
    have hFe : ∀ o, o < base → (obH base s.ob) o = putAll s.ob (icy s.ob (endsC base (rs0.flatMap seenT))) o := fun o ho => by
      rw [putAll_icy_other (hends o ho)]
      simp only [obH, if_pos ho]
    have hcut : (fun o => if o < base then putAll s.ob (icy s.ob (endsC base (rs0.flatMap seenT))) o else none : ObF) = fun o => if o < base then s.ob o else none := by
      funext o
      split
      · rename_i ho; rw [putAll_icy_other (hends o ho)]
      · rfl
    have hrefs : ∀ o cs, o < base → putAll s.ob (icy s.ob (endsC base (rs0.flatMap seenT))) o = some (.var cs) → ∀ q ∈ refsL cs, q < base := fun o cs ho hcs q hq => by
      rw [putAll_icy_other (hends o ho)] at hcs
      have := List.all_eq_true.1 hclean o (List.mem_range.2 ho)
      simp only [cleanO, hcs] at this
      simpa using List.all_eq_true.1 this q hq
    have hmem := x2.cut hrefs
    rw [hcut] at hmem
    have hlab' : ∀ o, ((obH base s.ob) o).isSome → o < base := fun o ho => by
      simp only [obH] at ho
      split at ho
      · assumption
      · cases ho
    have hres : ResRel g2 w (obH base s.ob) s.rt s.nx v rs' := hrel.map hb1 fun i x y u hx hy hu => by
      refine backT_ok hm x1.I hFe hu (hu.ext x1 hlab) (fun o ho hbo => x5 o (List.mem_filter.2 ⟨List.mem_flatMap.2 ⟨x, List.mem_of_getElem? hx, ho⟩, by simpa using hbo⟩)) (hb2 i x y hx hy)
    have hext : Ext B base g0 w0 ob0 rt0 nx0 g2 w (obH base s.ob) s.rt s.nx := by
      have k := he.trans (x1.mono (Nat.le_add_right ..))
      refine ⟨k.below, k.I, k.old, k.cell, fun o x ho hx => ?_, k.φ, k.rt, k.nx⟩
      obtain ⟨y, hy, l⟩ := he.like o x ho hx
      exact ⟨y, by simp only [obH, if_pos ho]; exact hy, l⟩
    exact ⟨g2, hext, hmem, hlab', hres⟩
  · cases hr

theorem fn_ok (hm : E.P.follows .mixedOrders = true) (hcall : CallOk E call) {n : Nat} {mv : Bool} {f : FuncId} {fn : Func} (hf : E.P.funcs[f]? = some fn) (hok : ∀ c, fn.body = some c → codeOk (H f).pairs c = true)
    {args : List AT} {ob ob' : ObF} {rt rt' : RtF} {nx nx' : Nat} {rs : List AT} (h : evFn E gen H call n base mv f fn args ob rt nx = some (rs, ob', rt', nx')) :
    ∀ (g : Gh) (w : World) (B : Blk) (vals : Array Value), RelM E.G g w ob rt nx B → (∀ o, (ob o).isSome → o < base) → RelAs g w ob rt nx vals.toList args →
    Calls E.P f vals w fun e w' => ∃ v g', e = .returned v ∧ Ext B base g w ob rt nx g' w' ob' rt' nx' ∧ RelM E.G g' w' ob' rt' nx' B ∧ (∀ o, (ob' o).isSome → o < lastN mv base) ∧ ResRel g' w' ob' rt' nx' v rs := by
  unfold evFn at h
  split at h
  · rename_i c hb
    split at h
    · rename_i hnt
      -- however the text ends
      have key : ∀ (s : St) (out : Out), evCode ⟨E, gen f, call, base, fn.ntmps, nx, List.range base, H f⟩ n c ⟨initTm args 0, ob, rt, nx⟩ = some (out, s) → (out = .fall ∨ out = .ret) →
          (if mv then leave base nx s (fn.results.toList.map (resAT1 E s)) else if (List.range base).all (cleanO base s.ob) then (backAll base s.ob (fn.results.toList.map (resAT1 E s))).map fun rs => (rs, obH base s.ob, s.rt, s.nx) else none) = some (rs, ob', rt', nx') →
          ∀ (g : Gh) (w : World) (B : Blk) (vals : Array Value), RelM E.G g w ob rt nx B → (∀ o, (ob o).isSome → o < base) → RelAs g w ob rt nx vals.toList args →
          Calls E.P f vals w fun e w' => ∃ v g', e = .returned v ∧ Ext B base g w ob rt nx g' w' ob' rt' nx' ∧ RelM E.G g' w' ob' rt' nx' B ∧ (∀ o, (ob' o).isSome → o < lastN mv base) ∧ ResRel g' w' ob' rt' nx' v rs := by
        intro s out hc hout hr g w B vals hM hlab hargs
        have hsize : vals.size = args.length := by simpa using hargs.1
        refine calls_of_wp hf hb ?_
        have e0 : Ent E B base fn.ntmps nx (List.range base) g w ob rt ⟨initTm args 0, ob, rt, nx⟩ g { tmps := vals ++ Array.replicate (fn.ntmps - vals.size) undef, defers := [] } w := by
          refine ⟨⟨⟨hM, fun o ho => by have := hlab o ho; omega, fun t => ?_⟩, by simp; omega, rfl⟩, Ext.refl ..⟩
          simp only [initTm_at, Nat.zero_le, if_true, Nat.sub_zero]
          by_cases ht : LT.lt (α := Nat) t args.length
          · have htv : LT.lt (α := Nat) t vals.size := by rw [hsize]; exact ht
            have h1 : args[t]? = some args[t] := List.getElem?_eq_getElem ht
            have h2 : vals.toList[t]? = some (vals[t]'htv) := by rw [Array.getElem?_toList]; exact Array.getElem?_eq_getElem htv
            have := hargs.2 t _ _ h1 h2
            rw [List.getD_eq_getElem?_getD, h1]
            simp only [Act.eval, Array.getD_eq_getD_getElem?]
            rw [Array.getElem?_append_left htv, Array.getElem?_eq_getElem htv]
            exact this
          · rw [List.getD_eq_getElem?_getD, List.getElem?_eq_none (Nat.le_of_not_lt ht)]
            exact .of .no
        refine (code_ok hm hcall (Nat.le_trans hnt.2 (by decide)) (fun o ho => List.mem_range.2 ho) hM n).1 c _ s out g _ w _ (hok c hb) hc e0 fun g' a' w' e' => ?_
        -- the end
        have hn : ∀ x ∈ fn.results.toList.map (resAT1 E s), x ≠ .no := fun x hx hx0 => by
          obtain ⟨i, hi⟩ := List.mem_iff_getElem?.1 hx
          have hi' := (List.getElem?_eq_some_iff.1 hi).1
          split at hr
          · unfold leave at hr
            split at hr
            · rename_i hno
              simp only at hr
              split at hr
              · rename_i hcc
                have := List.all_eq_true.1 hcc.2.2 x hx
                rw [hx0] at this
                cases this
              · cases hr
            · cases hr
          · split at hr
            · simp only [Option.map_eq_some_iff, Prod.mk.injEq] at hr
              obtain ⟨rs', hrs, _⟩ := hr
              obtain ⟨hb1, hb2⟩ := backAll_at hrs
              have := hb2 i x _ hi (List.getElem?_eq_getElem (by omega))
              rw [hx0] at this
              cases this
            · cases hr
        obtain ⟨v, hv, hrel⟩ := results_ok e'.cur.cur hn
        have fin : ∃ g2, Ext B base g w ob rt nx g2 w' ob' rt' nx' ∧ RelM E.G g2 w' ob' rt' nx' B ∧ (∀ o, (ob' o).isSome → o < lastN mv base) ∧ ResRel g2 w' ob' rt' nx' v rs := by
          cases mv with
          | true => exact leave_ok e'.cur.cur.mem hM.pos e'.ext hrel hr
          | false => exact back_ok e'.cur.cur.mem e'.cur.cur.lab e'.ext hrel hr
        obtain ⟨g2, hext, hmem, hlab', hres⟩ := fin
        have post : bodyPost E.P fn (fun e w' => ∃ v g', e = .returned v ∧ Ext B base g w ob rt nx g' w' ob' rt' nx' ∧ RelM E.G g' w' ob' rt' nx' B ∧ (∀ o, (ob' o).isSome → o < lastN mv base) ∧
            ResRel g' w' ob' rt' nx' v rs) .ret a' w' := ⟨e'.cur.defers, v, hv, v, g2, rfl, hext, hmem, hlab', hres⟩
        rcases hout with rfl | rfl
        · exact post
        · exact post
      split at h
      · rename_i s hc
        exact key s _ hc (.inl rfl) h
      · rename_i s hc
        exact key s _ hc (.inr rfl) h
      · cases h
    · cases h
  · cases h

/-- What must be held of a program's texts. -/
structure ProgOk (E : Env) (H : FuncId → Hint) : Prop where
  mixed : E.P.follows .mixedOrders = true
  code : ∀ f fn c, E.P.funcs[f]? = some fn → fn.body = some c → codeOk (H f).pairs c = true
  name : ∀ (f : Nat) (fn : Func), E.P.funcs[f]? = some fn → (fn.name == "runtime.NumGoroutine") = false

/-- Arguments stand for what they tell, wherever. -/
def RepAs (I : Nat → Nat → Prop) (w : World) (vs : List Value) (xs : List Arg) : Prop := vs.length = xs.length ∧ ∀ (i : Nat) (x : Arg) (v : Value), xs[i]? = some x → vs[i]? = some v → RepA I w v x

/-- A function that is known otherwise. -/
def ExtOk (E : Env) (ext : FuncId → Option (List Arg → Option (List Arg))) : Prop := ∀ f h xs rs, ext f = some h → h xs = some rs → Enters E.P f ∧
  ∀ (I : Nat → Nat → Prop) (w : World) (vals : Array Value), (∀ b i, I b i → b < w.heap.size) → RepAs I w vals.toList xs →
    Calls E.P f vals w fun e w' => ∃ v I', e = .returned v ∧ Below w.heap.size w w' ∧ (∀ b i, b < w.heap.size → (I' b i ↔ I b i)) ∧ (∀ b i, I' b i → b < w'.heap.size) ∧ ResA I' w' v rs

theorem argOf_no {g : Gh} {w : World} {ob : ObF} {rt : RtF} {nx : Nat} {x : AT} {y : Arg} {v : Value} (k : RelA g w ob rt nx v x) (h : argOf noOb x = some y) : RepA g.I w v y := by
  have key : ∀ {c : CV} {z : PV} {v : Value}, RelC g w ob rt nx v c → pvC noOb c = some z → RepP g.I w v z := by
    intro c z v hc hz
    cases hc with
    | p k => cases hz; exact k
    | p0 k => cases hz; exact k
    | pn _ _ k => cases hz; exact k
    | vw => simp [pvC, noOb] at hz
    | _ => cases hz
  cases k with
  | tup => simp [argOf] at h
  | of k =>
    cases k with
    | no => simp [argOf] at h
    | one k =>
      simp only [argOf, Option.map_eq_some_iff] at h
      obtain ⟨z, hz, rfl⟩ := h
      exact key k hz
    | agg k =>
      rename_i vs cs
      simp only [argOf, Option.map_eq_some_iff] at h
      obtain ⟨zs, hz, rfl⟩ := h
      have at' : ∀ {cs : List CV} {zs : List PV}, pvL noOb cs = some zs → zs.length = cs.length ∧ ∀ (j : Nat) (c : CV) (z : PV), cs[j]? = some c → zs[j]? = some z → pvC noOb c = some z := by
        intro cs
        induction cs with
        | nil => intro zs h; simp only [pvL, Option.some.injEq] at h; subst h; exact ⟨rfl, fun j c z h => by simp at h⟩
        | cons c cs ih =>
          intro zs h
          simp only [pvL] at h
          split at h
          · rename_i x xs hx hxs
            cases h
            obtain ⟨h1, h2⟩ := ih hxs
            refine ⟨by simp [h1], fun j d z hd hz => ?_⟩
            cases j with
            | zero => simp at hd hz; subst hd; subst hz; exact hx
            | succ j => exact h2 j d z (by simpa using hd) (by simpa using hz)
          · cases h
      obtain ⟨h1, h2⟩ := at' hz
      refine ⟨vs, rfl, by rw [k.1, h1], fun j y u hy hu => ?_⟩
      have hj := (List.getElem?_eq_some_iff.1 hy).1
      have hc := List.getElem?_eq_getElem (l := cs) (i := j) (by omega)
      exact key (k.2 j _ u hc hu) (h2 j _ y hc hy)

theorem evF_ok {ext : FuncId → Option (List Arg → Option (List Arg))} (hP : ProgOk E H) (hX : ExtOk E ext) : ∀ n, CallOk E (evF E gen H ext n) := by
  intro n
  induction n with
  | zero => intro base mv f args ob rt nx rs ob' rt' nx' h; cases h
  | succ n ih =>
    intro base mv f args ob rt nx rs ob' rt' nx' h
    simp only [evF] at h
    split at h
    · rename_i h' hx
      split at h
      · rename_i xs hxs
        simp only [Option.map_eq_some_iff, Prod.mk.injEq] at h
        obtain ⟨rs0, hrs, rfl, rfl, rfl, rfl⟩ := h
        obtain ⟨he, hc⟩ := hX _ _ _ _ hx hrs
        refine ⟨he, fun g w B vals hM hlab hargs => ?_⟩
        obtain ⟨a1, a2⟩ := argsOf_at hxs
        have ha : RepAs g.I w vals.toList xs := ⟨hargs.1.trans a1.symm, fun i x v hx hv => by
          have hi := (List.getElem?_eq_some_iff.1 hx).1
          have hy := List.getElem?_eq_getElem (l := args) (i := i) (by omega)
          exact argOf_no (hargs.2 i _ v hy hv) (a2 i _ x hy hx)⟩
        refine (hc g.I w vals hM.bnd ha).mono fun e w' hq => ?_
        obtain ⟨v, I', rfl, h1, h2, h3, h4⟩ := hq
        obtain ⟨z1, z2⟩ := hM.later hlab (.of h1) I' h2 h3
        refine ⟨v, { g with I := I' }, rfl, z1, z2, fun o ho => by have := hlab o ho; unfold lastN; split <;> omega, ?_⟩
        have key : ∀ {l : List Arg}, (∃ vs : Array Value, v = .tuple vs ∧ vs.size = l.length ∧ ∀ (i : Nat) (x : Arg) (u : Value), l[i]? = some x → vs[i]? = some u → RepA I' w' u x) →
            ∃ vs : Array Value, v = .tuple vs ∧ RelAs { g with I := I' } w' ob rt nx vs.toList (l.map atOf) := by
          rintro l ⟨vs, rfl, q1, q2⟩
          refine ⟨vs, rfl, by simpa using q1, fun i x u hx hu => ?_⟩
          simp only [List.getElem?_map, Option.map_eq_some_iff] at hx
          obtain ⟨y, hy, rfl⟩ := hx
          exact RepA.rel (g := { g with I := I' }) (q2 i y u hy (by simpa using hu))
        match rs0, h4 with
        | [r], h4 => exact RepA.rel (g := { g with I := I' }) h4
        | [], h4 => exact key h4
        | a :: b :: l, h4 => exact key h4
      · cases h
    · split at h
      · rename_i fn hf
        have hb : fn.body.isSome = true := by
          unfold evFn at h
          split at h
          · rename_i c hb; rw [hb]; rfl
          · cases h
        exact ⟨⟨fn, hf, hb, hP.name f fn hf⟩, fn_ok hP.mixed ih hf (fun c hc => hP.code f fn c hf hc) h⟩
      · cases h
end
end Go.Proofs.Ytcmaohhcbiienaa.X
