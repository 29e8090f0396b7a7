import Derived.Test.YtcmaohhcbiienaaWMore
import Derived.ChangeSlices
import Derived.ChangeArms
import Derived.Deep.Slices
import Derived.ChangeOld
import Derived.DataReads
/-! WHAT COMES IN, OPENED: out of an argument's reading (DataW.trod) the kinds of the print (Kd) and what is known of each number. -/
namespace Go.Proofs.Ytcmaohhcbiienaa.Opens
open Go.RowKit Go.Deep Go.Proofs.YtcmaohhcbiienaaW.PrintWords

/-- Whatever reads as data at type T is of kind d, and its numbers are well formed. -/
structure Opens (P : Program) {α : Type} (d : Kd α) (T : TypeId) (wf : α → Prop) : Prop where
  out : ∀ {H : Type} {enc : TypeId × Value → H} {w : World} {base : Nat} {spare : Nat → Bool} {held : Bool} {fuel : Nat} {cs : List Value} {x : DataW H × List MemPlace},
    DataW.trod enc P w base spare held fuel T cs = some x → ∃ a : α, d.K w a cs ∧ wf a

theorem opens_int {P : Program} {T : TypeId} {k : IntKind} (ht : P.underlying T = some (.int k)) : Opens P (Kd.int k) T (fun n => (Lit.int k n).wf = true) := by
  refine ⟨?_⟩
  intro H enc w base spare held fuel cs x h
  cases fuel with
  | zero => simp [DataW.trod] at h
  | succ f =>
    unfold DataW.trod at h
    rw [ht] at h
    split at h <;> first | (rename_i e1; cases e1; done) | skip
    all_goals first
      | (rename_i k1 k2 n e1
         simp only [Option.some.injEq, TypeDesc.int.injEq] at e1
         subst e1
         split at h
         · rename_i hk
           obtain ⟨rfl, hw⟩ := hk
           exact ⟨n, rfl, hw⟩
         · cases h)
      | cases h
      | skip

theorem opens_bool {P : Program} {T : TypeId} (ht : P.underlying T = some .bool) : Opens P Kd.bool T (fun _ => True) := by
  refine ⟨?_⟩
  intro H enc w base spare held fuel cs x h
  cases fuel with
  | zero => simp [DataW.trod] at h
  | succ f =>
    unfold DataW.trod at h
    rw [ht] at h
    split at h <;> first | (rename_i e1; cases e1; done) | skip
    all_goals first
      | (rename_i b e1
         exact ⟨b, rfl, trivial⟩)
      | cases h
      | skip

theorem opens_string {P : Program} {T : TypeId} (ht : P.underlying T = some .string) : Opens P Kd.string T (fun s => s.size ≤ maxLen) := by
  refine ⟨?_⟩
  intro H enc w base spare held fuel cs x h
  cases fuel with
  | zero => simp [DataW.trod] at h
  | succ f =>
    unfold DataW.trod at h
    rw [ht] at h
    split at h <;> first | (rename_i e1; cases e1; done) | skip
    all_goals first
      | (rename_i s e1
         split at h
         · rename_i hs
           exact ⟨s, rfl, hs⟩
         · cases h)
      | cases h
      | skip

theorem opens_slice {P : Program} {α : Type} {d : Kd α} {T e : TypeId} {wf : α → Prop} (ht : P.underlying T = some (.slice e)) (hc : P.cellsOf e = d.sz) (ho : Opens P d e wf) :
    Opens P (Kd.slice e d) T (fun l => (∀ x ∈ l, wf x) ∧ l.length ≤ maxLen) := by
  refine ⟨?_⟩
  intro H enc w base spare held fuel cs x h
  rcases open_slice ht h with ⟨rfl, _⟩ | ⟨a, len, cap, m, n, D, Pl, rfl, hb, hl, hm, hmm, rfl, hx⟩
  · exact ⟨[], ⟨none, 0, rfl, Nat.le_refl _, ⟨rfl, by simp, fun h => absurd h (by simp)⟩⟩, by simp, by simp⟩
  · have hle : len ≤ m := by rw [hmm]; split <;> omega
    have key : ∀ i, i < len → ∃ x : α, wf x ∧ ∃ c, c.length = d.sz ∧ d.K w x c ∧ ∀ j u, c[j]? = some u → w.cell? (a.add (i * d.sz + j)) = some u := by
      intro i hi
      obtain ⟨cs', h1, h2⟩ := hx i (by omega)
      obtain ⟨x, hk, hw⟩ := ho.out h2
      obtain ⟨_, hlen, hcell⟩ := World.cells?_some h1
      refine ⟨x, hw, cs', by rw [hlen, hc], hk, fun j u hj => ?_⟩
      have hj' : j < cs'.length := by
        rcases Nat.lt_or_ge j cs'.length with h0 | h0
        · exact h0
        · rw [List.getElem?_eq_none h0] at hj; cases hj
      have := hcell j (by omega)
      rw [hj, Deep.add_add, hc] at this
      exact this
    by_cases h0 : len = 0
    · subst h0
      exact ⟨[], ⟨some a, cap, rfl, by simp, ⟨rfl, by simp, fun h => absurd h (by simp)⟩⟩, by simp, by simp⟩
    have : Inhabited α := ⟨Classical.choose (key 0 (by omega))⟩
    obtain ⟨f, hf⟩ := choose_lt key
    have hlen : ((List.range len).map f).length = len := by simp
    refine ⟨(List.range len).map f, ⟨some a, cap, by rw [hlen], by rw [hlen]; exact hl, ?_⟩, ?_, ?_⟩
    · refine ⟨rfl, by rw [hlen]; unfold maxLen at hm; omega, fun _ => ⟨a, rfl, fun j p hj => ?_⟩⟩
      obtain ⟨hj1, hj2⟩ := List.getElem?_eq_some_iff.1 hj
      rw [hlen] at hj1
      rw [List.getElem_map, List.getElem_range] at hj2
      subst hj2
      obtain ⟨_, c, hc1, hk, hcell⟩ := hf j hj1
      exact ⟨c, hc1, hk, hcell⟩
    · intro x hxm
      obtain ⟨i, hi, rfl⟩ := List.mem_map.1 hxm
      exact (hf i (List.mem_range.1 hi)).1
    · rw [hlen]; exact Nat.le_trans hl hm

/-- Fields in line, from an offset on. -/
structure OpensFs (P : Program) {α : Type} (d : Kd α) (fs : List Field) (off : Nat) (wf : α → Prop) : Prop where
  out : ∀ {H : Type} {enc : TypeId × Value → H} {w : World} {base : Nat} {spare : Nat → Bool} {held : Bool} {fuel : Nat} {cs : List Value} {xs : List (DataW H × List MemPlace)},
    cs.length = off + d.sz → fs.mapM (fun f => DataW.trod enc P w base spare held fuel f.type ((cs.drop f.offset).take (P.cellsOf f.type))) = some xs → ∃ a : α, d.K w a (cs.drop off) ∧ wf a

theorem opensFs_one {P : Program} {α : Type} {d : Kd α} {f : Field} {off : Nat} {wf : α → Prop} (hoff : f.offset = off) (hc : P.cellsOf f.type = d.sz) (ho : Opens P d f.type wf) : OpensFs P d [f] off wf := by
  refine ⟨?_⟩
  intro H enc w base spare held fuel cs xs hl h
  obtain ⟨x, hx⟩ : ∃ x, DataW.trod enc P w base spare held fuel f.type ((cs.drop f.offset).take (P.cellsOf f.type)) = some x := by
    cases hq : DataW.trod enc P w base spare held fuel f.type ((cs.drop f.offset).take (P.cellsOf f.type)) with
    | some x => exact ⟨x, rfl⟩
    | none => simp [List.mapM_cons, hq] at h
  rw [hoff, hc, List.take_of_length_le (by simp; omega)] at hx
  exact ho.out hx

theorem opensFs_cons {P : Program} {α β : Type} {d : Kd α} {d' : Kd β} {f : Field} {fs : List Field} {off : Nat} {wf : α → Prop} {wf' : β → Prop} (hoff : f.offset = off) (hc : P.cellsOf f.type = d.sz) (ho : Opens P d f.type wf) (hr : OpensFs P d' fs (off + d.sz) wf') :
    OpensFs P (Kd.pair d d') (f :: fs) off (fun p => wf p.1 ∧ wf' p.2) := by
  refine ⟨?_⟩
  intro H enc w base spare held fuel cs xs hl h
  have hl' : cs.length = off + (d.sz + d'.sz) := hl
  rw [List.mapM_cons] at h
  obtain ⟨x, hx, h⟩ := Option.bind_eq_some_iff.1 h
  obtain ⟨ys, hys, h⟩ := Option.bind_eq_some_iff.1 h
  rw [hoff, hc] at hx
  obtain ⟨a, ha, hwa⟩ := ho.out hx
  obtain ⟨b, hb, hwb⟩ := hr.out (by omega) hys
  refine ⟨(a, b), ⟨(cs.drop off).take d.sz, cs.drop (off + d.sz), ?_, ha, hb⟩, hwa, hwb⟩
  rw [← List.drop_drop, List.take_append_drop]

theorem opens_struct {P : Program} {α β : Type} {d : Kd α} {T : TypeId} {fs : Array Field} {wf : α → Prop} {f : β → α} {g : α → β} {wf' : β → Prop} (ht : P.underlying T = some (.struct fs)) (hc : P.cellsOf T = d.sz) (ho : OpensFs P d fs.toList 0 wf)
    (hg : ∀ a, f (g a) = a) (hwf : ∀ a, wf a → wf' (g a)) : Opens P (Kd.iso d f) T wf' := by
  refine ⟨?_⟩
  intro H enc w base spare held fuel cs x h
  cases fuel with
  | zero => simp [DataW.trod] at h
  | succ fu =>
    unfold DataW.trod at h
    rw [ht] at h
    simp only at h
    split at h
    · rename_i hlen
      obtain ⟨xs, hxs, _⟩ := Option.map_eq_some_iff.1 h
      obtain ⟨a, ha, hw⟩ := ho.out (by rw [hlen, hc]; omega) hxs
      refine ⟨g a, ?_, hwf a hw⟩
      show d.K w (f (g a)) cs
      rw [hg]
      exact ha
    · cases h

/-- An argument that is a slice. -/
theorem arg_slice {P : Program} {α : Type} {d : Kd α} {T e : TypeId} {wf : List α → Prop} (ho : Opens P (Kd.slice e d) T wf) {H : Type} {enc : TypeId × Value → H} {w : World} {base : Nat} {spare : Nat → Bool} {held : Bool} {v : Value} {dd : DataW H} {ps : List MemPlace}
    (h : DataW.Trod enc P w base spare held T v dd ps) (hv : ∃ a n c, v = .slice a n c) : ∃ A c, ∃ l : List α, v = .slice A l.length c ∧ l.length ≤ c ∧ Kd.C d w A l.length l ∧ wf l := by
  obtain ⟨fuel, hf⟩ := h
  obtain ⟨a, n, c, rfl⟩ := hv
  obtain ⟨l, ⟨A, c', he, hl, hC⟩, hw⟩ := ho.out hf
  have : Value.slice a n c = .slice A l.length c' := by simpa [Value.cells] using he
  exact ⟨A, c', l, this, hl, hC, hw⟩

theorem arg_struct {P : Program} {α : Type} {d : Kd α} {T : TypeId} {wf : α → Prop} (ho : Opens P d T wf) {H : Type} {enc : TypeId × Value → H} {w : World} {base : Nat} {spare : Nat → Bool} {held : Bool} {v : Value} {dd : DataW H} {ps : List MemPlace}
    (h : DataW.Trod enc P w base spare held T v dd ps) : ∃ a, d.K w a v.cells.toList ∧ wf a := by
  obtain ⟨fuel, hf⟩ := h
  exact ho.out hf
end Go.Proofs.Ytcmaohhcbiienaa.Opens
