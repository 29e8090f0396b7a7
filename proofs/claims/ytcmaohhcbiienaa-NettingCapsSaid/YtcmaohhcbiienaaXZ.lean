import Derived.Test.YtcmaohhcbiienaaXY
/-! XZ: a drawn region: whatever order is drawn. -/
set_option linter.unusedVariables false
namespace Go.Proofs.Ytcmaohhcbiienaa.X
open Go.RowKit

section
variable {E : Env} {gen : FuncId → Bool} {call : CallF} {base nt : Nat} {B : Blk} {ops : Array Oper}

/-- What is held of a drawn region's text: what is ahead of a row (by the edges, and what is ahead of that), and that all others are apart. -/
def regionOk (ops : Array Oper) (l : List (Nat × Nat)) : Bool :=
  let m := Region.before ops
  (List.range ops.size).all fun i => match ops[i]? with
    | none => false
    | some oi => (oi.after.all fun e => e.on < i || !Region.binds .any e) && (List.range i).all fun j =>
        if (m.getD i 0).testBit j then oi.after.any fun e => Region.binds .any e && (e.on == j || decide (j < e.on) && (m.getD e.on 0).testBit j)
        else l.contains (j, i) && match ops[j]? with
          | some oj => oj.apart ops oi
          | none => false

structure Apart (ops : Array Oper) (l : List (Nat × Nat)) (anc : Nat → Nat → Prop) : Prop where
  edge : ∀ i o, ops[i]? = some o → ∀ e ∈ o.after, Region.binds .any e = true → e.on < i
  up : ∀ i o, ops[i]? = some o → ∀ j, j < i → anc i j → ∃ e ∈ o.after, Region.binds .any e = true ∧ (e.on = j ∨ j < e.on ∧ anc e.on j)
  free : ∀ i o, ops[i]? = some o → ∀ j, j < i → ¬ anc i j → (j, i) ∈ l ∧ ∃ q, ops[j]? = some q ∧ q.apart ops o = true
theorem regionOk_spec {l : List (Nat × Nat)} (h : regionOk ops l = true) : Apart ops l fun i j => ((Region.before ops).getD i 0).testBit j = true := by
  unfold regionOk at h
  simp only [List.all_eq_true, List.mem_range] at h
  have key : ∀ i o, ops[i]? = some o → (o.after.all fun e => e.on < i || !Region.binds .any e) = true ∧ ∀ j, j < i →
      (if ((Region.before ops).getD i 0).testBit j then o.after.any fun e => Region.binds .any e && (e.on == j || decide (j < e.on) && ((Region.before ops).getD e.on 0).testBit j)
        else l.contains (j, i) && match ops[j]? with
          | some oj => oj.apart ops o
          | none => false) = true := by
    intro i o ho
    have := h i (Array.getElem?_eq_some_iff.1 ho).1
    rw [ho] at this
    simpa only [Bool.and_eq_true, List.all_eq_true, List.mem_range] using this
  refine ⟨fun i o ho e he hb => ?_, fun i o ho j hj ha => ?_, fun i o ho j hj ha => ?_⟩
  · have := (Array.all_eq_true_iff_forall_mem.1 (key i o ho).1) e he
    simpa [hb] using this
  · have := (key i o ho).2 j hj
    rw [if_pos ha] at this
    rw [Array.any_eq_true'] at this
    obtain ⟨e, he, h1⟩ := this
    simp only [Bool.and_eq_true, Bool.or_eq_true, beq_iff_eq, decide_eq_true_eq] at h1
    exact ⟨e, he, h1.1, h1.2⟩
  · have := (key i o ho).2 j hj
    rw [if_neg ha] at this
    simp only [Bool.and_eq_true, List.contains_eq_mem, decide_eq_true_eq] at this
    refine ⟨this.1, ?_⟩
    cases hq : ops[j]? with
    | none => rw [hq] at this; cases this.2
    | some q => rw [hq] at this; exact ⟨q, rfl, this.2⟩

variable {l : List (Nat × Nat)} {anc : Nat → Nat → Prop}

/-- What is listed is closed: all that is ahead of it is listed. -/
def Closed (ops : Array Oper) (listed : Array Bool) : Prop := ∀ i o, ops[i]? = some o → listed.getD i false = true → ∀ e ∈ o.after, Region.binds .any e = true → listed.getD e.on false = true
theorem anc_listed (hA : Apart ops l anc) {listed : Array Bool} (hC : Closed ops listed) : ∀ (i : Nat) (o : Oper), ops[i]? = some o →
    (∀ e ∈ o.after, Region.binds .any e = true → listed.getD e.on false = true) → ∀ j, j < i → anc i j → listed.getD j false = true := by
  intro i
  induction i using Nat.strongRecOn with
  | _ i ih =>
    intro o ho hp j hj ha
    obtain ⟨e, he, hb, h1⟩ := hA.up i o ho j hj ha
    have hl := hp e he hb
    rcases h1 with rfl | ⟨h2, h1⟩
    · exact hl
    · have hlt := hA.edge i o ho e he hb
      cases hq : ops[e.on]? with
      | none =>
        have h3 := (Array.getElem?_eq_some_iff.1 ho).1
        have h4 := Array.getElem?_eq_none_iff.1 hq
        omega
      | some q => exact ih e.on hlt q hq (fun e' he' hb' => hC _ _ hq hl e' he' hb') j h2 h1

/-- A list of places cut at one of them. -/
theorem cut_at : ∀ {L : List Nat} {i : Nat}, i ∈ L → ∃ L1 L2, L = L1 ++ i :: L2
  | [], _, h => by cases h
  | a :: L, i, h => by
    rcases List.mem_cons.1 h with rfl | h
    · exact ⟨[], L, rfl⟩
    · obtain ⟨L1, L2, rfl⟩ := cut_at h
      exact ⟨a :: L1, L2, rfl⟩

variable {g : Gh} {w : World}
/-- The rows that are left, in whatever order they come. -/
theorem any_ok (hcall : CallOk E call) (hnt : nt ≤ 4096) (hA : Apart ops l anc) {ud : Nat → Upd} (hud : ∀ p ∈ l, (ud p.1).apart (ud p.2) = true) {Q : Exit → Act → World → Prop} {s' : St} :
    ∀ (fuel : Nat) (listed : Array Bool) (L : List Nat) (a : Act) (w : World) (g : Gh) (s : St), L.length = fuel → listed.size = ops.size → (∀ i, i < ops.size → (listed.getD i true = false ↔ i ∈ L)) →
      L.Pairwise (· < ·) → (∀ i ∈ L, i < ops.size) → Closed ops listed → CurN E B (base + 16384) nt s g a w →
      evRows E gen call base nt ops (L.map fun i => ops.getD i default) s = some (s', L.map ud) → Goes E B (base + 16384) nt s g w s' (Q .normal) →
      wpAny E.P .any ops Q fuel listed a w := by
  intro fuel
  induction fuel with
  | zero =>
    intro listed L a w g s hL hsz hl hP hlt hC c h hQ
    obtain rfl := List.eq_nil_of_length_eq_zero hL
    simp only [List.map_nil, evRows, Option.some.injEq, Prod.mk.injEq, and_true] at h
    subst h
    refine ⟨?_, hQ _ _ g c (Ext.refl ..)⟩
    rw [List.eq_nil_iff_forall_not_mem]
    intro i hi
    obtain ⟨h0, o, ho, _⟩ := mem_ready.1 hi
    have := (hl i (Array.getElem?_eq_some_iff.1 ho).1).1 h0
    cases this
  | succ fuel ih =>
    intro listed L a w g s hL hsz hl hP hlt hC c h hQ
    refine ⟨fun hr => ?_, fun i hi => ?_⟩
    · exfalso
      cases L with
      | nil => cases hL
      | cons i L =>
        have hi : i < ops.size := hlt i (List.mem_cons_self ..)
        obtain ⟨o, ho⟩ : ∃ o, ops[i]? = some o := ⟨ops[i], Array.getElem?_eq_getElem hi⟩
        have : i ∈ Region.ready .any ops listed := mem_ready.2 ⟨(hl i hi).2 (List.mem_cons_self ..), o, ho, fun e he hb => by
          have h1 := hA.edge i o ho e he hb
          have h2 : e.on ∉ i :: L := fun hm => by
            rcases List.mem_cons.1 hm with h3 | h3
            · omega
            · have := (List.pairwise_cons.1 hP).1 _ h3
              omega
          have h3 : listed.getD e.on true ≠ false := fun h4 => h2 ((hl e.on (by omega)).1 h4)
          have h4 : e.on < listed.size := by rw [hsz]; omega
          rw [Array.getD_eq_getD_getElem?, Array.getElem?_eq_getElem h4] at h3 ⊢
          simpa using h3⟩
        rw [hr] at this
        cases this
    · obtain ⟨h0, o, ho, hp⟩ := mem_ready.1 hi
      have hi' := (Array.getElem?_eq_some_iff.1 ho).1
      have hiL := (hl i hi').1 h0
      obtain ⟨L1, L2, rfl⟩ := cut_at hiL
      have hgo : ops.getD i default = o := by rw [Array.getD_eq_getD_getElem?, ho]; rfl
      have hlow : ∀ j ∈ L1, j < i := fun j hj => (List.pairwise_append.1 hP).2.2 j hj i (List.mem_cons_self ..)
      have hfree : ∀ j ∈ L1, (j, i) ∈ l ∧ ∃ q, ops[j]? = some q ∧ q.apart ops o = true := fun j hj => by
        have hj' := hlow j hj
        refine hA.free i o ho j hj' fun ha => ?_
        have h1 := anc_listed hA hC i o ho hp j hj' ha
        have h2 := (hl j (by omega)).2 (List.mem_append_left _ hj)
        have h4 : j < listed.size := by rw [hsz]; omega
        rw [Array.getD_eq_getD_getElem?, Array.getElem?_eq_getElem h4] at h1 h2
        simp at h1 h2
        rw [h1] at h2
        cases h2
      rw [List.map_append, List.map_cons, List.map_append, List.map_cons, hgo] at h
      obtain ⟨h1, h2⟩ := rows_front (by simp) h (fun y hy => by
          obtain ⟨j, hj, rfl⟩ := List.mem_map.1 hy
          obtain ⟨_, q, hq, hap⟩ := hfree j hj
          have : ops.getD j default = q := by rw [Array.getD_eq_getD_getElem?, hq]; rfl
          rw [this]; exact hap) fun v hv => by
          obtain ⟨j, hj, rfl⟩ := List.mem_map.1 hv
          exact hud _ (hfree j hj).1
      rw [← List.map_append, ← List.map_append] at h2
      have key : ∀ a' w' g', CurN E B (base + 16384) nt (apU o.dst (ud i) s) g' a' w' → Ext B (base + 16384) g w s.ob s.rt s.nx g' w' (apU o.dst (ud i) s).ob (apU o.dst (ud i) s).rt (apU o.dst (ud i) s).nx →
          wpAny E.P .any ops Q fuel (listed.setIfInBounds i true) a' w' := fun a' w' g' c' e' => by
        have hnd : i ∉ L1 ++ L2 := by
          intro hm
          have hP' := List.pairwise_append.1 hP
          rcases List.mem_append.1 hm with hm | hm
          · have := hlow i hm; omega
          · have := (List.pairwise_cons.1 hP'.2.1).1 i hm; omega
        refine ih _ (L1 ++ L2) a' w' g' _ ?_ (by simp [hsz]) (fun j hj => ?_) ?_ (fun j hj => hlt j ?_) (fun j q hq hlj e he hb => ?_) c' h2 fun a2 w2 g2 c2 e2 => hQ _ _ g2 c2 (e'.trans e2)
        · simp only [List.length_append, List.length_cons] at hL ⊢; omega
        · by_cases hij : i = j
          · subst hij
            constructor
            · intro h3
              simp [hsz, hj] at h3
            · exact fun h3 => absurd h3 hnd
          · rw [getD_set_ne true hij, hl j hj]
            simp only [List.mem_append, List.mem_cons]
            constructor
            · rintro (h3 | rfl | h3)
              · exact .inl h3
              · exact absurd rfl hij
              · exact .inr h3
            · rintro (h3 | h3)
              · exact .inl h3
              · exact .inr (.inr h3)
        · have hP' := List.pairwise_append.1 hP
          exact List.pairwise_append.2 ⟨hP'.1, (List.pairwise_cons.1 hP'.2.1).2, fun x hx y hy => hP'.2.2 x hx y (List.mem_cons_of_mem _ hy)⟩
        · rcases List.mem_append.1 hj with h3 | h3
          · exact List.mem_append_left _ h3
          · exact List.mem_append_right _ (List.mem_cons_of_mem _ h3)
        · by_cases hij : i = j
          · subst hij
            rw [ho] at hq
            cases hq
            exact getD_set_true (hp e he hb)
          · rw [getD_set_ne false hij] at hlj
            exact getD_set_true (hC j q hq hlj e he hb)
      unfold wpOp
      simp only [ho]
      have := row_ok (Q := Q) hcall hnt c h1 (K := wpAny E.P .any ops Q fuel (listed.setIfInBounds i true)) fun a' w' g' c' e' => key a' w' g' c' e'
      split
      · rename_i hw
        rw [if_pos hw] at this
        exact .inl this
      · rename_i hw
        rw [if_neg hw] at this
        exact this

theorem CurN.drew {lim : Nat} {s : St} {a : Act} (c : CurN E B lim nt s g a w) : CurN E B lim nt s g a { w with drawn := w.drawn + 1 } :=
  ⟨⟨c.cur.mem.drew c.cur.lab, c.cur.lab, fun t => (c.cur.tm t).ext (Ext.drew (B := B) (lim := lim)) c.cur.lab⟩, c.size, c.defers⟩

theorem evRows_len : ∀ {L : List Oper} {s s' : St} {us : List Upd}, evRows E gen call base nt ops L s = some (s', us) → us.length = L.length
  | [], s, s', us, h => by simp only [evRows, Option.some.injEq, Prod.mk.injEq] at h; rw [← h.2]; rfl
  | o :: L, s, s', us, h => by
    obtain ⟨u, us', _, h2, rfl⟩ := evRows_cons.1 h
    rw [List.length_cons, List.length_cons, evRows_len h2]
theorem region_ok {id : Nat} (hm : E.P.follows .mixedOrders = true) (hcall : CallOk E call) (hnt : nt ≤ 4096) (hA : regionOk ops l = true) {s s' : St} {us : List Upd} {a : Act} {Q : Exit → Act → World → Prop}
    (c : CurN E B (base + 16384) nt s g a w) (h : evRows E gen call base nt ops ops.toList s = some (s', us)) (ha : apartAll us l = true)
    (hQ : Goes E B (base + 16384) nt s g w s' (Q .normal)) : (Code.region id ops true).wp E.P Q a w := by
  refine wp_region_any hm ?_
  have hlen := evRows_len h
  have hud : ∀ p ∈ l, (us.getD p.1 { val := .no }).apart (us.getD p.2 { val := .no }) = true := fun p hp => by
    have := List.all_eq_true.1 ha p hp
    split at this
    · rename_i u v hu hv
      rw [List.getD_eq_getElem?_getD, List.getD_eq_getElem?_getD, hu, hv]
      exact this
    · cases this
  have hmap : (List.range ops.size).map (fun i => ops.getD i default) = ops.toList := by
    refine List.ext_getElem (by simp) fun i h1 h2 => ?_
    rw [List.getElem_map, List.getElem_range, Array.getD_eq_getD_getElem?, Array.getElem?_eq_getElem (by simpa using h1)]
    rfl
  have hus : (List.range ops.size).map (fun i => us.getD i { val := .no }) = us := by
    refine List.ext_getElem (by simpa using hlen.symm) fun i h1 h2 => ?_
    rw [List.getElem_map, List.getElem_range, List.getD_eq_getElem?_getD, List.getElem?_eq_getElem h2]
    rfl
  refine any_ok (gen := gen) (l := l) (anc := fun i j => ((Region.before ops).getD i 0).testBit j = true) (ud := fun i => us.getD i { val := .no }) (s' := s') hcall hnt (regionOk_spec hA) hud ops.size (Array.replicate ops.size false) (List.range ops.size) a { w with drawn := w.drawn + 1 } g s (by simp) (by simp) (fun i hi => by simp [hi]) List.pairwise_lt_range (fun i hi => List.mem_range.1 hi) (fun i o ho hl => ?_) c.drew ?_ fun a' w' g' c' e' => hQ _ _ g' c' (Ext.drew.trans e')
  · have := (Array.getElem?_eq_some_iff.1 ho).1
    simp [this] at hl
  · rw [hmap, hus]; exact h
end
end Go.Proofs.Ytcmaohhcbiienaa.X
