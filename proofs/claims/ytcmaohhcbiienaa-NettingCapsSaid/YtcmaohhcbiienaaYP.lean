import Derived.Test.YtcmaohhcbiienaaYO
import Derived.ChangeSlices
import Derived.ChangeArms
import Derived.Deep.Slices
import Derived.ChangeOld
import Derived.DataReads
/-! YP: from what a function hands back (Ret) to the machine's call; and what comes in, opened (out of an argument's reading). -/
set_option linter.unusedVariables false
namespace Go.Proofs.Ytcmaohhcbiienaa.X
open Go.RowKit Go.Deep

/-- What a function hands back, as the machine runs it. -/
theorem Ret.calls {C : Cx} (hP : ProgOk C.E C.H) (hX : ExtOk C.E C.ext) {f : FuncId} {xs rs : List Arg} (h : Ret C f xs rs) {I : Nat → Nat → Prop} {w : World} {vals : Array Value}
    (hG : ∀ k cs, C.E.G k = some cs → RepP I w (.pointer (some ⟨k, 0, none⟩)) (.ref cs)) (hI : ∀ b i, I b i → b < w.heap.size) (ha : RepAs I w vals.toList xs) :
    Calls C.E.P f vals w fun e w' => ∃ v I', e = .returned v ∧ Below w.heap.size w w' ∧ ResA I' w' v rs := by
  obtain ⟨n, h⟩ := h
  unfold pureCall at h
  split at h
  · rename_i rs' ob' rt' nx' hc
    obtain ⟨_, hcal⟩ := evF_ok hP hX n _ _ _ _ _ _ _ _ _ _ _ hc
    let g : Gh := ⟨I, fun _ => 0, fun _ => (.nilFunc, 0), fun _ => none⟩
    have hM : RelM C.E.G g w noOb noRt 1 (old w) := ⟨Nat.one_pos, hG, fun _ h => h, (fun o x hx => by cases hx), (fun o o' x y ho => by cases ho), (fun n _ _ h => by cases h), (fun n m b _ _ _ _ h => by cases h), hI⟩
    have ha1 : RelAs g w noOb noRt 1 vals.toList (xs.map atOf) := by
      refine ⟨by rw [ha.1]; simp, fun i x v hx hv => ?_⟩
      simp only [List.getElem?_map, Option.map_eq_some_iff] at hx
      obtain ⟨y, hy, rfl⟩ := hx
      exact RepA.rel (g := g) (ha.2 i y v hy hv)
    refine (hcal g w (old w) vals hM (fun o ho => by cases ho) ha1).mono fun e w' hq => ?_
    obtain ⟨v, g', rfl, q1, q2, q3, q4⟩ := hq
    have hno : ∀ o, ob' o = none := fun o => by
      cases ho : ob' o with
      | none => rfl
      | some x => exact absurd (q3 o (by simp [ho])) (Nat.not_lt_zero _)
    exact ⟨v, g'.I, rfl, q1.below.below, results_rep q2 hno q4 h⟩
  · cases h

/-- The whole program, looked at once. -/
def okAll (P : Program) (H : FuncId → Hint) : Bool := (List.range P.funcs.size).all fun f => match P.funcs[f]? with
  | some fn => !(fn.name == "runtime.NumGoroutine") && (match fn.body with
    | some c => codeOk (H f).pairs c
    | none => true)
  | none => true
theorem progOk_of {E : Env} {H : FuncId → Hint} (hm : E.P.follows .mixedOrders = true) (h : okAll E.P H = true) : ProgOk E H := by
  have key : ∀ (f : Nat) (fn : Func), E.P.funcs[f]? = some fn → (!(fn.name == "runtime.NumGoroutine") && (match fn.body with
    | some c => codeOk (H f).pairs c
    | none => true)) = true := by
    intro f fn hf
    have hlt : f < E.P.funcs.size := (Array.getElem?_eq_some_iff.1 hf).1
    have := List.all_eq_true.1 h f (List.mem_range.2 hlt)
    simp only [hf] at this
    exact this
  refine ⟨hm, fun f fn c hf hc => ?_, fun f fn hf => ?_⟩
  · have := key f fn hf
    simp only [hc, Bool.and_eq_true] at this
    exact this.2
  · have := key f fn hf
    simp only [Bool.and_eq_true, Bool.not_eq_true'] at this
    exact this.1

/-- All that is there. -/
def allI (w : World) : Nat → Nat → Prop := fun b _ => b < w.heap.size
theorem allI_lt {w : World} : ∀ b i, allI w b i → b < w.heap.size := fun _ _ h => h
theorem cell_lt {w : World} {a : Addr} {u : Value} (h : w.cell? a = some u) : a.block < w.heap.size := by
  unfold World.cell? at h
  split at h
  · rename_i q
    exact (Array.getElem?_eq_some_iff.1 q).1
  · cases h

/-- Cells stand for what they tell. -/
def RepC (w : World) (cs : List Value) (ps : List PV) : Prop := cs.length = ps.length ∧ ∀ (j : Nat) (x : PV) (v : Value), ps[j]? = some x → cs[j]? = some v → RepP (allI w) w v x

/-- Whatever reads as data at type T is told by d, and its numbers are well formed. -/
structure OpensP (P : Program) {α : Type} (sz : Nat) (d : α → List PV) (T : TypeId) (wf : α → Prop) : Prop where
  out : ∀ {H : Type} {enc : TypeId × Value → H} {w : World} {base : Nat} {spare : Nat → Bool} {held : Bool} {fuel : Nat} {cs : List Value} {x : DataW H × List MemPlace},
    DataW.trod enc P w base spare held fuel T cs = some x → ∃ a : α, RepC w cs (d a) ∧ (d a).length = sz ∧ wf a

theorem repC_one {w : World} {v : Value} {x : PV} (h : RepP (allI w) w v x) : RepC w [v] [x] :=
  ⟨rfl, fun j y u hy hu => by cases j with
    | zero => cases hy; cases hu; exact h
    | succ j => cases hy⟩

theorem opensP_int {P : Program} {T : TypeId} {k : IntKind} (ht : P.underlying T = some (.int k)) : OpensP P 1 (fun n : Int => [pI k n]) T (fun n => (Lit.int k n).wf = true) := by
  refine ⟨?_⟩
  intro H enc w base spare held fuel cs x h
  cases fuel with
  | zero => simp [DataW.trod] at h
  | succ f =>
    unfold DataW.trod at h
    rw [ht] at h
    split at h <;> first | (rename_i e1; cases e1; done) | skip
    all_goals first
      | (rename_i k1 k2 n e1
         simp only [Option.some.injEq, TypeDesc.int.injEq] at e1
         subst e1
         split at h
         · rename_i hk
           obtain ⟨rfl, hw⟩ := hk
           exact ⟨n, repC_one (.sc rfl), rfl, hw⟩
         · cases h)
      | cases h
      | skip

theorem opensP_bool {P : Program} {T : TypeId} (ht : P.underlying T = some .bool) : OpensP P 1 (fun b : Bool => [pB b]) T (fun _ => True) := by
  refine ⟨?_⟩
  intro H enc w base spare held fuel cs x h
  cases fuel with
  | zero => simp [DataW.trod] at h
  | succ f =>
    unfold DataW.trod at h
    rw [ht] at h
    split at h <;> first | (rename_i e1; cases e1; done) | skip
    all_goals first
      | (rename_i b e1
         exact ⟨b, repC_one (.sc rfl), rfl, trivial⟩)
      | cases h
      | skip

theorem opensP_string {P : Program} {T : TypeId} (ht : P.underlying T = some .string) : OpensP P 1 (fun s : ByteArray => [pS s]) T (fun s => s.size ≤ maxLen) := by
  refine ⟨?_⟩
  intro H enc w base spare held fuel cs x h
  cases fuel with
  | zero => simp [DataW.trod] at h
  | succ f =>
    unfold DataW.trod at h
    rw [ht] at h
    split at h <;> first | (rename_i e1; cases e1; done) | skip
    all_goals first
      | (rename_i s e1
         split at h
         · rename_i hs
           exact ⟨s, repC_one (.sc rfl), rfl, hs⟩
         · cases h)
      | cases h
      | skip

/-- An argument that is a slice. -/
theorem arg_sliceP {P : Program} {α : Type} {sz : Nat} {d : α → List PV} {T e : TypeId} {wf : α → Prop} (ht : P.underlying T = some (.slice e)) (hc : P.cellsOf e = sz) (ho : OpensP P sz d e wf)
    {H : Type} {enc : TypeId × Value → H} {w : World} {base b0 : Nat} {spare : Nat → Bool} {held : Bool} {v : Value} {dd : DataW H} {ps : List MemPlace} {r : Reach}
    (hval : Value.okWide P w r b0 T v) (h : DataW.Trod enc P w base spare held T v dd ps) : ∃ l : List α, RepA (allI w) w v (aV [.sl sz (l.map d)]) ∧ (∀ x ∈ l, wf x) ∧ l.length ≤ maxLen := by
  obtain ⟨a0, n0, c0, rfl⟩ := Go.WideShapes.okWide_slice ht hval
  obtain ⟨fuel, hf⟩ := h
  have hsp : ∀ a, a0 = some a → a.spot = none := by
    intro a ha
    subst ha
    simp only [Value.okWide, ht, Cell.okWide, Cell.ok] at hval
    exact hval.2.2.2.1
  rcases open_slice ht hf with ⟨he, _⟩ | ⟨a, len, cap, m, n, D, Pl, he, hb, hl, hm, hmm, _, hx⟩
  · have : Value.slice a0 n0 c0 = .slice none 0 0 := by simpa [Value.cells] using he
    cases this
    refine ⟨[], ?_, by simp, by simp⟩
    exact RepP.sl (I := allI w) (l := []) (fun _ _ => .nilFunc) (Nat.le_refl _) (Nat.zero_le _) (fun _ => rfl) (fun a ha => by cases ha) (fun i r hi => by simp at hi) (fun a ha => by cases ha) (fun i r j x hi => by simp at hi)
  · have q1 : Value.slice a0 n0 c0 = .slice (some a) len cap := by simpa [Value.cells] using he
    obtain ⟨q2, q3, q4⟩ := Value.slice.inj q1
    have q3 := q3.symm
    have q4 := q4.symm
    subst q2
    subst q3
    subst q4
    clear q1
    have hle : len ≤ m := by rw [hmm]; split <;> omega
    have key : ∀ i, i < len → ∃ x : α, wf x ∧ ∃ c, c.length = sz ∧ RepC w c (d x) ∧ (d x).length = sz ∧ ∀ j u, c[j]? = some u → w.cell? (a.add (i * sz + j)) = some u := by
      intro i hi
      obtain ⟨cs', h1, h2⟩ := hx i (by omega)
      obtain ⟨x, hk, hs, hw⟩ := ho.out h2
      obtain ⟨_, hlen, hcell⟩ := World.cells?_some h1
      refine ⟨x, hw, cs', by rw [hlen, hc], hk, hs, fun j u hj => ?_⟩
      have hj' : j < cs'.length := by
        rcases Nat.lt_or_ge j cs'.length with h0 | h0
        · exact h0
        · rw [List.getElem?_eq_none h0] at hj; cases hj
      have := hcell j (by omega)
      rw [hj, Deep.add_add, hc] at this
      exact this
    by_cases h0 : len = 0
    · subst h0
      refine ⟨[], ?_, by simp, by simp⟩
      exact RepP.sl (I := allI w) (l := []) (fun _ _ => .nilFunc) hl hm (fun q => by cases q) hsp (fun i r hi => by simp at hi) (fun a ha i r j x hi => by simp at hi) (fun i r j x hi => by simp at hi)
    have : Inhabited α := ⟨Classical.choose (key 0 (by omega))⟩
    obtain ⟨f, hf'⟩ := choose_lt key
    have hlen : ((List.range len).map f).length = len := by simp
    have hlen2 : (((List.range len).map f).map d).length = len := by simp
    refine ⟨(List.range len).map f, ?_, ?_, by rw [hlen]; exact Nat.le_trans hl hm⟩
    · show RepP (allI w) w (.slice (some a) len cap) (.sl sz (((List.range len).map f).map d))
      have spot : a.spot = none := hsp a rfl
      have at_ : ∀ {i : Nat} {r : List PV}, (((List.range len).map f).map d)[i]? = some r → i < len ∧ r = d (f i) := by
        intro i r hr
        obtain ⟨hi1, hi2⟩ := List.getElem?_eq_some_iff.1 hr
        rw [hlen2] at hi1
        rw [List.getElem_map, List.getElem_map, List.getElem_range] at hi2
        exact ⟨hi1, hi2.symm⟩
      have add_eq : ∀ k, a.add k = ⟨a.block, a.off + k, none⟩ := by
        intro k
        unfold Addr.add
        split
        · rename_i q; subst q; cases a; cases spot; rfl
        · rfl
      have cell_at : ∀ {i : Nat} {r : List PV} {j : Nat} {x : PV}, (((List.range len).map f).map d)[i]? = some r → r[j]? = some x → ∃ u, w.cell? ⟨a.block, a.off + (i * sz + j), none⟩ = some u ∧ RepP (allI w) w u x := by
        intro i r j x hr hx
        obtain ⟨hi, rfl⟩ := at_ hr
        obtain ⟨_, c, hc1, hk, hs, hcell⟩ := hf' i hi
        have hj : j < c.length := by rw [hk.1]; exact (List.getElem?_eq_some_iff.1 hx).1
        have hu := List.getElem?_eq_getElem hj
        refine ⟨c[j], ?_, hk.2 j x _ hx hu⟩
        rw [← add_eq]
        exact hcell j _ hu
      have := RepP.sl (I := allI w) (w := w) (A := some a) (cap := cap) (z := sz) (l := ((List.range len).map f).map d)
        (fun i j => (w.cell? ⟨a.block, a.off + (i * sz + j), none⟩).getD .nilFunc) (by rw [hlen2]; exact hl) hm (fun q => by cases q) hsp
        (fun i r hr => by obtain ⟨hi, rfl⟩ := at_ hr; obtain ⟨_, c, _, _, hs, _⟩ := hf' i hi; exact hs)
        (fun a' ha i r j x hr hx => by
          cases ha
          obtain ⟨u, hu, _⟩ := cell_at hr hx
          refine ⟨cell_lt (a := ⟨a.block, a.off + (i * sz + j), none⟩) hu, ?_⟩
          show w.cell? ⟨a.block, a.off + (i * sz + j), none⟩ = some ((w.cell? ⟨a.block, a.off + (i * sz + j), none⟩).getD .nilFunc)
          rw [hu]; rfl)
        (fun i r j x hr hx => by
          obtain ⟨u, hu, hk⟩ := cell_at hr hx
          show RepP (allI w) w ((w.cell? ⟨a.block, a.off + (i * sz + j), none⟩).getD .nilFunc) x
          rw [hu]
          exact hk)
      rw [hlen2] at this
      exact this
    · intro x hxm
      obtain ⟨i, hi, rfl⟩ := List.mem_map.1 hxm
      exact (hf' i (List.mem_range.1 hi)).1
/-- Fields in line, from an offset on. -/
structure OpensFsP (P : Program) {α : Type} (sz : Nat) (d : α → List PV) (fs : List Field) (off : Nat) (wf : α → Prop) : Prop where
  out : ∀ {H : Type} {enc : TypeId × Value → H} {w : World} {base : Nat} {spare : Nat → Bool} {held : Bool} {fuel : Nat} {cs : List Value} {xs : List (DataW H × List MemPlace)},
    cs.length = off + sz → fs.mapM (fun f => DataW.trod enc P w base spare held fuel f.type ((cs.drop f.offset).take (P.cellsOf f.type))) = some xs → ∃ a : α, RepC w (cs.drop off) (d a) ∧ (d a).length = sz ∧ wf a

theorem opensFsP_one {P : Program} {α : Type} {sz : Nat} {d : α → List PV} {f : Field} {off : Nat} {wf : α → Prop} (hoff : f.offset = off) (hc : P.cellsOf f.type = sz) (ho : OpensP P sz d f.type wf) : OpensFsP P sz d [f] off wf := by
  refine ⟨?_⟩
  intro H enc w base spare held fuel cs xs hl h
  obtain ⟨x, hx⟩ : ∃ x, DataW.trod enc P w base spare held fuel f.type ((cs.drop f.offset).take (P.cellsOf f.type)) = some x := by
    cases hq : DataW.trod enc P w base spare held fuel f.type ((cs.drop f.offset).take (P.cellsOf f.type)) with
    | some x => exact ⟨x, rfl⟩
    | none => simp [List.mapM_cons, hq] at h
  rw [hoff, hc, List.take_of_length_le (by simp; omega)] at hx
  exact ho.out hx

theorem RepC.append {w : World} {cs cs' : List Value} {ps ps' : List PV} (h : RepC w cs ps) (k : RepC w cs' ps') : RepC w (cs ++ cs') (ps ++ ps') := by
  refine ⟨by simp [h.1, k.1], fun j x v hx hv => ?_⟩
  rcases Nat.lt_or_ge j ps.length with q | q
  · rw [List.getElem?_append_left q] at hx
    rw [List.getElem?_append_left (by rw [h.1]; exact q)] at hv
    exact h.2 j x v hx hv
  · rw [List.getElem?_append_right q] at hx
    rw [List.getElem?_append_right (by rw [h.1]; exact q), h.1] at hv
    exact k.2 _ x v hx hv

theorem opensFsP_cons {P : Program} {α β : Type} {sz sz' : Nat} {d : α → List PV} {d' : β → List PV} {f : Field} {fs : List Field} {off : Nat} {wf : α → Prop} {wf' : β → Prop} (hoff : f.offset = off) (hc : P.cellsOf f.type = sz)
    (ho : OpensP P sz d f.type wf) (hr : OpensFsP P sz' d' fs (off + sz) wf') : OpensFsP P (sz + sz') (fun p : α × β => d p.1 ++ d' p.2) (f :: fs) off (fun p => wf p.1 ∧ wf' p.2) := by
  refine ⟨?_⟩
  intro H enc w base spare held fuel cs xs hl h
  rw [List.mapM_cons] at h
  obtain ⟨x, hx, h⟩ := Option.bind_eq_some_iff.1 h
  obtain ⟨ys, hys, h⟩ := Option.bind_eq_some_iff.1 h
  rw [hoff, hc] at hx
  obtain ⟨a, ha, hla, hwa⟩ := ho.out hx
  obtain ⟨b, hb, hlb, hwb⟩ := hr.out (by omega) hys
  refine ⟨(a, b), ?_, by simp [hla, hlb], hwa, hwb⟩
  have := ha.append hb
  rw [← List.drop_drop, List.take_append_drop] at this
  exact this

theorem opensP_struct {P : Program} {α β : Type} {sz : Nat} {d : α → List PV} {d' : β → List PV} {T : TypeId} {fs : Array Field} {wf : α → Prop} {g : α → β} {wf' : β → Prop} (ht : P.underlying T = some (.struct fs)) (hc : P.cellsOf T = sz) (ho : OpensFsP P sz d fs.toList 0 wf)
    (hg : ∀ a, d' (g a) = d a) (hwf : ∀ a, wf a → wf' (g a)) : OpensP P sz d' T wf' := by
  refine ⟨?_⟩
  intro H enc w base spare held fuel cs x h
  cases fuel with
  | zero => simp [DataW.trod] at h
  | succ fu =>
    unfold DataW.trod at h
    rw [ht] at h
    simp only at h
    split at h
    · rename_i hlen
      obtain ⟨xs, hxs, _⟩ := Option.map_eq_some_iff.1 h
      obtain ⟨a, ha, hl, hw⟩ := ho.out (by rw [hlen, hc]; omega) hxs
      refine ⟨g a, ?_, by rw [hg]; exact hl, hwf a hw⟩
      rw [hg]
      exact ha
    · cases h

theorem opensP_cast {P : Program} {α : Type} {sz : Nat} {d : α → List PV} {T T' : TypeId} {wf : α → Prop} (h : T' = T) (o : OpensP P sz d T wf) : OpensP P sz d T' wf := by subst h; exact o
/-- A struct's field. -/
def fl (P : Program) (t i : Nat) : Field := match P.underlying t with
  | some (.struct fs) => fs.toList.getD i default
  | _ => default
theorem arg_intP {I : Nat → Nat → Prop} {w : World} {k : IntKind} {n : Int} : RepA I w (.int k n) (aV [pI k n]) := RepP.sc (I := I) (w := w) rfl
theorem arg_boolP {I : Nat → Nat → Prop} {w : World} {b : Bool} : RepA I w (.bool b) (aV [pB b]) := RepP.sc (I := I) (w := w) rfl
theorem res_bool {I : Nat → Nat → Prop} {w : World} {v : Value} {b : Bool} (h : ResA I w v [aV [pB b]]) : v = .bool b := by
  have h : RepP I w v (.sc (.bool b)) := h
  cases h
  rfl
theorem RepAs.nil {I : Nat → Nat → Prop} {w : World} : RepAs I w [] [] := ⟨rfl, fun i x v hx => by simp at hx⟩
theorem RepAs.cons {I : Nat → Nat → Prop} {w : World} {v : Value} {vs : List Value} {x : Arg} {xs : List Arg} (h : RepA I w v x) (k : RepAs I w vs xs) : RepAs I w (v :: vs) (x :: xs) :=
  ⟨by simp [k.1], fun i y u hy hu => by cases i with
    | zero => cases hy; cases hu; exact h
    | succ i => exact k.2 i y u (by simpa using hy) (by simpa using hu)⟩
end Go.Proofs.Ytcmaohhcbiienaa.X
