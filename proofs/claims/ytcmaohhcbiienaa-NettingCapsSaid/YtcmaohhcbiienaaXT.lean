import Derived.Test.YtcmaohhcbiienaaWF
/-! XT: every operation that the evaluator covers. -/
set_option linter.unusedVariables false
namespace Go.Proofs.Ytcmaohhcbiienaa.X
open Go.RowKit

section
variable {E : Env} {B : Blk} {base : Nat} {g g' : Gh} {w w' : World}

theorem arr1 {α : Type} {x : Array α} {a : α} (h : x.toList = [a]) : x = #[a] := Array.ext' (by simpa using h)
theorem arr2 {α : Type} {x : Array α} {a b : α} (h : x.toList = [a, b]) : x = #[a, b] := Array.ext' (by simpa using h)

theorem lim_lt {d base : Nat} (h : d < 4096) : base + d < base + 16384 := by omega
theorem lim_lt4 {base : Nat} {o : Option Nat} (h : ∀ d, o = some d → d < 4096) : base + o.getD 4095 + 12288 < base + 16384 := by
  cases o with
  | none => show base + 4095 + 12288 < base + 16384; omega
  | some d =>
    have := h d rfl
    show base + d + 12288 < base + 16384
    omega
theorem evCall_ok {s : St} {a : Act} {gen : Nat → Bool} {call : CallF} (hcall : CallOk E call) (c : Cur E B (base + 16384) s g a w) {o : Oper} {u : Upd} (hd : ∀ d, o.dst = some d → d < 4096) {cl : Call} (ho : o.op = .call cl)
    (h : evCall E gen call base (evOpd E s.tm) s.ob s.rt s.nx o.dst cl = some u) : OpOk E B (base + 16384) s g a w o u := by
  obtain ⟨callee, args, ts⟩ := cl
  unfold evCall at h
  simp only at h
  split at h
  · rename_i x t ha ht
    rw [arr1 ha, arr1 ht] at ho
    split at h
    · rename_i p z l hx hk
      simp only [Option.map_eq_some_iff] at hk
      obtain ⟨ti, hT, hk⟩ := hk
      cases h
      exact c.lenSl ho hT hk hx
    · rename_i q lo n hx hk
      simp only [Option.map_eq_some_iff] at hk
      obtain ⟨ti, hT, hk⟩ := hk
      cases h
      exact c.lenVw ho hT hk hx
    · cases h
  · rename_i x y t t' ha ht
    rw [arr2 ha, arr2 ht] at ho
    split at h
    · rename_i ti hT
      split at h
      · rename_i hc
        obtain ⟨hk, rfl⟩ := hc
        split at h
        · rename_i q lo n cy hx hy
          split at h
          · rename_i z' rows z l hq hl
            split at h
            · rename_i hc2
              obtain ⟨rfl, rfl, hle⟩ := hc2
              cases h
              exact c.copy ho hT hk hx hq hy hl hle
            · cases h
          · cases h
        · cases h
      · cases h
    · cases h
  · rename_i x t ha ht
    rw [arr1 ha, arr1 ht] at ho
    split at h
    · rename_i ti q lo n hT hx
      split at h
      · rename_i z' rows te hq hTe
        split at h
        · rename_i z hz
          split at h
          · rename_i hc2
            obtain ⟨hk, rfl, hzl, hle⟩ := hc2
            cases h
            exact c.clear ho hT hk hTe hx hq hz hzl hle
          · cases h
        · cases h
      · cases h
    · cases h
  · rename_i x y t t' ha ht
    rw [arr2 ha, arr2 ht] at ho
    split at h
    · rename_i ti hT
      split at h
      · rename_i hc
        obtain ⟨hk, rfl⟩ := hc
        split at h
        · split at h
          · rename_i z cy d hx hy hdst
            split at h
            · rename_i z' l' hl hq
              split at h
              · rename_i hc2
                obtain ⟨rfl, hz, hte, h0, hlen, hby⟩ := hc2
                subst hz
                obtain ⟨te, hTe⟩ := Option.isSome_iff_exists.1 hte
                cases h
                exact c.appendNew ho hT hk hTe hx hy hl h0 hlen hby hq (lim_lt (hd d hdst))
              · cases h
            · cases h
          · cases h
        · split at h
          · rename_i n z l p z' l' d hx hy hdst
            split at h
            · rename_i hc2
              obtain ⟨rfl, hz, hte, h0, hn, hlen, hby⟩ := hc2
              subst hz
              obtain ⟨te, hTe⟩ := Option.isSome_iff_exists.1 hte
              cases h
              exact c.append ho hT hk hTe hx hy h0 hn hlen hby
            · cases h
          · cases h
      · cases h
    · cases h
  · rename_i f
    have hlast := lim_lt4 (base := base) hd
    split at h
    · rename_i hlen
      split at h
      · rename_i p k cs hf
        have hfr := c.opd f
        rw [hf] at hfr
        have hfr := p_rep (one_rep hfr)
        generalize hfv : a.eval f = fv at hfr
        cases hfr with
        | @fn _ caps _ hcl hcr =>
          have hcs : RelAs g w s.ob s.rt s.nx caps.toList (cs.map fun x => .one (.p none x)) := ⟨by simpa using hcl, fun i x v hx hv => by
            simp only [List.getElem?_map, Option.map_eq_some_iff] at hx
            obtain ⟨y, hy, rfl⟩ := hx
            exact .of (.one (.p (hcr i y v hy (by simpa using hv))))⟩
          split at h
          · exact c.callMv hcall ho hfv hlen hcs hlast h
          · split at h
            · rename_i xs hxs
              simp only [Option.map_eq_some_iff] at h
              obtain ⟨rs, hrs, rfl⟩ := h
              exact c.callPure hcall ho hf hlen hxs hrs
            · split at h
              · rename_i xs hxs
                exact c.callFlat hcall ho hfv hlen hcs hxs h
              · cases h
      · rename_i k cs hf
        have hfr := c.opd f
        rw [hf] at hfr
        have hfr := one_rep hfr
        generalize hfv : a.eval f = fv at hfr
        cases hfr with
        | @cl _ caps _ hcl hcr =>
          have hcs : RelAs g w s.ob s.rt s.nx caps.toList (cs.map .one) := ⟨by simpa using hcl, fun i x v hx hv => by
            simp only [List.getElem?_map, Option.map_eq_some_iff] at hx
            obtain ⟨y, hy, rfl⟩ := hx
            exact .of (.one (hcr i y v hy (by simpa using hv)))⟩
          split at h
          · exact c.callMv hcall ho hfv hlen hcs hlast h
          · split at h
            · rename_i xs hxs
              exact c.callFlat hcall ho hfv hlen hcs hxs h
            · cases h
      · cases h
    · cases h
  · cases h

theorem evOp_ok {s : St} {a : Act} {gen : Nat → Bool} {call : CallF} (hcall : CallOk E call) (c : Cur E B (base + 16384) s g a w) {o : Oper} {u : Upd} (hd : ∀ d, o.dst = some d → d < 4096)
    (h : evOp E gen call base (evOpd E s.tm) s.ob s.rt s.nx o = some u) : OpOk E B (base + 16384) s g a w o u := by
  unfold evOp at h
  split at h
  · rename_i x hop; cases h; exact c.move (.inl hop)
  · rename_i x hop; cases h; exact c.assign hop
  · rename_i q x y hop
    split at h
    · rename_i p t hq; cases h; exact c.pick hop hq
    · cases h
  · rename_i t hop
    split at h
    · rename_i ti d hT hdst
      split at h
      · rename_i hob; cases h; have hd' := hd d hdst; exact c.alloc hop hT hob (lim_lt hd')
      · cases h
    · cases h
  · rename_i t x hop
    split at h
    · rename_i cs d hx hdst
      split at h
      · rename_i hob; cases h; have hd' := hd d hdst; exact c.box hop hx hob (lim_lt hd')
      · cases h
    · cases h
  · rename_i t parts hop
    split at h
    · rename_i ti hT
      split at h
      · rename_i hk
        simp only [Option.map_eq_some_iff] at h
        obtain ⟨cs, hcs, rfl⟩ := h
        exact c.buildS hop hT hk hcs
      · split at h
        · rename_i hk
          simp only [Option.map_eq_some_iff] at h
          obtain ⟨cs, hcs, rfl⟩ := h
          exact c.buildA hop hT hk hcs
        · cases h
    · cases h
  · rename_i t n parts hop
    split at h
    · rename_i ti hT
      split at h
      · rename_i hk
        obtain ⟨hk, h0, hn, he⟩ := hk
        split at h
        · rename_i te hTe
          split at h
          · rename_i z hz
            split at h
            · rename_i hzl
              simp only [Option.map_eq_some_iff] at h
              obtain ⟨rows, hrows, rfl⟩ := h
              exact c.buildSlice hop hT hk h0 hn he hTe hz hzl hrows
            · cases h
          · cases h
        · cases h
      · cases h
    · cases h
  · rename_i t x hop
    split at h
    · rename_i ti hT
      exact c.load hop hT h
    · cases h
  · rename_i t x y hop
    split at h
    · rename_i ti p off vs hT hx hy
      split at h
      · rename_i cs hp
        split at h
        · rename_i hc
          cases h
          exact c.storeVar hop hT hx hy hp hc.1 hc.2
        · cases h
      · cases h
    · rename_i ti p r off vs hT hx hy
      split at h
      · rename_i z rows xs hp hxs
        split at h
        · rename_i row hr
          split at h
          · rename_i hc
            cases h
            exact c.storeArr hop hT hx hy hp hxs hr hc.1 hc.2.1 hc.2.2
          · cases h
        · cases h
      · cases h
    · cases h
  · rename_i t x f hop
    split at h
    · rename_i ti hT
      split at h
      · rename_i hk
        split at h
        · rename_i off sz ag ty hf
          split at h
          · cases h
          · rename_i hz
            simp only [Option.map_eq_some_iff] at h
            obtain ⟨q, hq, rfl⟩ := h
            exact c.fieldAddr hop hT hk hf hz hq
        · cases h
      · cases h
    · cases h
  · rename_i t x f hop
    split at h
    · rename_i ti cs hT hx
      split at h
      · rename_i hk
        split at h
        · rename_i off sz ag ty hf
          simp only [Option.map_eq_some_iff] at h
          obtain ⟨q, hq, rfl⟩ := h
          exact c.field hop hT hk hf hx hq
        · cases h
      · cases h
    · cases h
  · rename_i t x i hop
    split at h
    · rename_i ti n hT hi
      split at h
      · rename_i hk
        split at h
        · rename_i hc
          simp only [Option.map_eq_some_iff] at h
          obtain ⟨q, hq, rfl⟩ := h
          exact c.indexArr hop hT hk hi hc.1 hc.2 hq
        · cases h
      · split at h
        · rename_i hk
          split at h
          · rename_i p z l hx
            split at h
            · rename_i hc
              obtain ⟨rfl, h0⟩ := hc
              split at h
              · rename_i r hr
                cases h
                exact c.indexSl hop hT hk hi h0 hx hr
              · cases h
            · cases h
          · rename_i q lo m hx
            split at h
            · rename_i fz z rows hq
              split at h
              · rename_i hc
                obtain ⟨rfl, h0, hm⟩ := hc
                cases h
                exact c.indexVw hop hT hk hi h0 hx hm hq
              · cases h
            · cases h
          · cases h
        · cases h
    · cases h
  · rename_i t x i hop
    split at h
    · rename_i ti cs n hT hx hi
      split at h
      · rename_i hc
        simp only [Option.map_eq_some_iff] at h
        obtain ⟨q, hq, rfl⟩ := h
        exact c.indexAgg hop hT hc.1 hi hc.2.1 hc.2.2 hx hq
      · cases h
    · exact c.gen (fun cs b e => by rw [hop] at e; cases e) h
  · rename_i t x lo hi mx hop
    split at h
    · rename_i ti p z l lo' hi' mx' hT hx h1 h2 h3
      simp only at h
      split at h
      · rename_i hc
        obtain ⟨hk, rfl, q1, q2, q3, q4, q5⟩ := hc
        cases h
        exact c.sliceSl hop hT hk hx h1 h2 h3 q1 q2 q3 q4 q5
      · cases h
    · rename_i ti q k n lo' hi' hT hx h1 h2 h3
      simp only at h
      split at h
      · rename_i fz z rows hq
        split at h
        · rename_i hc
          obtain ⟨hk, rfl, q1, q2, q3⟩ := hc
          cases h
          have hmx : mx = none := by
            cases mx with
            | none => rfl
            | some m => simp [optIdx] at h3
          subst hmx
          exact c.sliceVw hop hT hk hx hq h1 h2 q1 q2 q3
        · cases h
      · cases h
    · exact c.gen (fun cs b e => by rw [hop] at e; cases e) h
  · rename_i t x y hop
    split at h
    · rename_i ti n m d hT hx hy hdst
      split at h
      · rename_i te hTe
        split at h
        · rename_i z hz
          split at h
          · rename_i hc
            obtain ⟨hk, h0, hzl, q1, q2, q3, q4⟩ := hc
            split at h
            · rename_i hzero
              cases h
              exact c.makeRight hop hT hk hTe hzero hy (by omega) q3 q4
            · split at h
              · rename_i hnm
                subst hnm
                split at h
                · rename_i hob
                  cases h
                  have hd' := hd d hdst
                  exact c.makeVw hop hT hk hTe hx hy q1 q3 q4 h0 hz hzl hob (lim_lt hd')
                · cases h
              · cases h
          · cases h
        · cases h
      · cases h
    · cases h
  · rename_i t r hop
    split at h
    · rename_i d hdst
      split at h
      · rename_i hob; cases h; have hd' := hd d hdst; exact c.makeMap hop hob (lim_lt hd')
      · cases h
    · cases h
  · rename_i t x i ok hop
    split at h
    · rename_i m k hx hk
      split at h
      · rename_i es n hm
        simp only [Option.map_eq_some_iff] at h
        obtain ⟨b, hb, rfl⟩ := h
        exact c.lookup hop hx hm hk hb
      · cases h
    · cases h
  · rename_i t x i y hop
    split at h
    · rename_i m k v hx hk hy
      split at h
      · rename_i es n hm
        simp only [Option.map_eq_some_iff] at h
        obtain ⟨q, hq, rfl⟩ := h
        exact c.mapUpdate hop hx hm hk hy hq
      · cases h
    · cases h
  · rename_i x hop
    split at h
    · rename_i q k hx; cases h; exact c.nilCheck hop hx (.inl ⟨_, _, rfl⟩)
    · rename_i q r k hx; cases h; exact c.nilCheck hop hx (.inr (.inl ⟨_, _, _, rfl⟩))
    · rename_i p cs hx; cases h; exact c.nilCheck hop hx (.inr (.inr (.inl ⟨_, _, rfl⟩)))
    · rename_i p f cs hx; cases h; exact c.nilCheck hop hx (.inr (.inr (.inr (.inl ⟨_, _, _, rfl⟩))))
    · rename_i f cs hx; cases h; exact c.nilCheck hop hx (.inr (.inr (.inr (.inr ⟨_, _, rfl⟩))))
    · exact c.gen (fun cs b e => by rw [hop] at e; cases e) h
  · rename_i x i hop
    split at h
    · rename_i ts hx
      simp only [Option.map_eq_some_iff] at h
      obtain ⟨r, hr, rfl⟩ := h
      exact c.extract hop hx hr
    · cases h
  · rename_i f first caps hop
    split at h
    · rename_i h0
      split at h
      · rename_i cs hcs
        split at h
        · rename_i hall
          simp only at h
          have hm := c.makeFunc hop h0 hcs hall
          split at h
          · rename_i ps hps; cases h; exact hm.1 ps hps
          · cases h; exact hm.2
        · cases h
      · cases h
    · cases h
  · rename_i cl hop
    split at h
    · split at h
      · rename_i u' hu
        cases h
        exact evCall_ok hcall c hd hop hu
      · exact c.gen (fun cs b e => by rw [hop] at e; cases e) h
    · exact evCall_ok hcall c hd hop h
    · exact evCall_ok hcall c hd hop h
    · exact evCall_ok hcall c hd hop h
    · split at h
      · exact evCall_ok hcall c hd hop h
      · exact c.gen (fun cs b e => by rw [hop] at e; cases e) h
    · cases h
  · rename_i hop
    split at h
    · rename_i u' hu
      cases h
      exact c.aggB hop hu
    · exact c.gen (fun cs b e => by rw [hop] at e; cases e) h
  all_goals first | (cases h; done) | (rename_i hop; exact c.gen (fun cs b e => by rw [hop] at e; cases e) h)
end
end Go.Proofs.Ytcmaohhcbiienaa.X
