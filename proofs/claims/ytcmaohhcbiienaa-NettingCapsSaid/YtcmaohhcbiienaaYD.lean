import Derived.Test.YtcmaohhcbiienaaYC
/-! YD: functions; calls within calls. -/
set_option linter.unusedVariables false
namespace Go.Proofs.Ytcmaohhcbiienaa.X
open Go.RowKit

section
variable {E : Env} {B : Blk} {base nx0 : Nat} {vis : List Nat} {g g0 : Gh} {w w0 : World} {ob ob0 F : ObF} {rt rt0 : RtF} {nx : Nat}

mutual
theorem refsC_at {c : CV} {f : FuncId} {cs : List CV} (h : c = .cl f cs) : refsC c = refsL cs := by subst h; rfl
end
theorem refsL_at : ∀ {cs : List CV} {j : Nat} {x : CV} {o : Nat}, cs[j]? = some x → o ∈ refsC x → o ∈ refsL cs
  | [], j, x, o, h, _ => by simp at h
  | c :: cs, j, x, o, h, ho => by
    simp only [refsL, List.mem_append]
    cases j with
    | zero => simp at h; subst h; exact .inl ho
    | succ j => exact .inr (refsL_at (by simpa using h) ho)

/-- Where the variables that a cell speaks of are the same. -/
theorem RelC.sub {v : Value} {c : CV} (h : RelC g w ob rt nx v c) : (∀ o ∈ refsC c, F o = ob o) → RelC g w F rt nx v c := by
  induction h with
  | p k => exact fun _ => .p k
  | p0 k => exact fun _ => .p0 k
  | pn h0 h1 k hg => exact fun _ => .pn h0 h1 k hg
  | pt k => exact fun h => .pt ((h _ (by simp [refsC])).trans k)
  | pr k => exact fun h => .pr ((h _ (by simp [refsC])).trans k)
  | mt k => exact fun h => .mt ((h _ (by simp [refsC])).trans k)
  | vw k h1 h2 h3 h4 h5 h6 => exact fun h => .vw ((h _ (by simp [refsC])).trans k) h1 h2 h3 h4 h5 h6
  | cl hl _ ih => exact fun h => .cl hl fun j x v hx hv => ih j x v hx hv fun o ho => h o (by simp only [refsC]; exact refsL_at hx ho)

theorem RelC.refs {v : Value} {c : CV} (h : RelC g w ob rt nx v c) : ∀ o ∈ refsC c, (ob o).isSome := by
  induction h with
  | p k => intro o ho; simp [refsC] at ho
  | p0 k => intro o ho; simp [refsC] at ho
  | pn h0 h1 k hg => intro o ho; simp [refsC] at ho
  | pt k => intro o ho; simp [refsC] at ho; subst ho; rw [k]; rfl
  | pr k => intro o ho; simp [refsC] at ho; subst ho; rw [k]; rfl
  | mt k => intro o ho; simp [refsC] at ho; subst ho; rw [k]; rfl
  | vw k h1 h2 h3 h4 h5 h6 => intro o ho; simp [refsC] at ho; subst ho; rw [k]; rfl
  | @cl f caps cs hl hr ih =>
    intro o ho
    simp only [refsC] at ho
    have : ∀ (cs : List CV) (k : Nat), (∀ j x, cs[j]? = some x → ∃ v, caps[k + j]? = some v ∧ ∀ o ∈ refsC x, (ob o).isSome) → ∀ o ∈ refsL cs, (ob o).isSome := by
      intro cs
      induction cs with
      | nil => intro k _ o ho; simp [refsL] at ho
      | cons c cs ihc =>
        intro k hk o ho
        simp only [refsL, List.mem_append] at ho
        rcases ho with ho | ho
        · obtain ⟨v, _, q⟩ := hk 0 c rfl
          exact q o ho
        · exact ihc (k + 1) (fun j x hx => by
            obtain ⟨v, hv, q⟩ := hk (j + 1) x (by simpa using hx)
            exact ⟨v, by rw [← hv]; congr 1; omega, q⟩) o ho
    refine this cs 0 (fun j x hx => ?_) o ho
    have hj := (List.getElem?_eq_some_iff.1 hx).1
    have hv := Array.getElem?_eq_getElem (xs := caps) (i := j) (by omega)
    exact ⟨_, by rw [Nat.zero_add]; exact hv, ih j x _ hx hv⟩

/-- Only what was there before the call: where nothing that is kept speaks of what ends. -/
theorem RelM.cut {G : Nat → Option (List PV)} (h : RelM G g w ob rt nx B) (hc : ∀ o cs, o < base → ob o = some (.var cs) → ∀ q ∈ refsL cs, q < base) :
    RelM G g w (fun o => if o < base then ob o else none) rt nx B := by
  have hs : ∀ o x, (if o < base then ob o else none) = some x → o < base ∧ ob o = some x := fun o x hx => by
    split at hx
    · exact ⟨by assumption, hx⟩
    · cases hx
  refine ⟨h.pos, h.glob, h.size, fun o x hx => ?_, fun o o' x y hx hy sx sy hφ => ?_, fun n n0 hn ht => ?_, h.apart, h.bnd⟩
  · obtain ⟨hb, hx⟩ := hs o x hx
    obtain ⟨k, hB⟩ := h.obj o x hx
    refine ⟨?_, hB⟩
    cases k with
    | nil => exact .nil
    | mp h1 h2 => exact .mp h1 h2
    | arr e vs q1 q2 q3 q4 q5 q6 q7 => exact .arr e vs q1 q2 q3 q4 q5 q6 q7
    | var e vs q1 q2 q3 => exact .var e vs q1 ⟨q2.1, fun j x v hj hv => (q2.2 j x v hj hv).sub fun o' ho' => if_pos (hc o _ hb hx o' (refsL_at hj ho'))⟩ q3
  · exact h.inj o o' x y (hs o x hx).2 (hs o' y hy).2 sx sy hφ
  · cases h.own n n0 hn ht with
    | full A k z q1 q2 => exact .full A k z q1 q2
    | own b' len cap z ee cur q1 q2 q3 q4 q5 q6 q7 q8 q9 =>
      exact .own b' len cap z ee cur q1 q2 q3 q4 q5 q6 q7 q8 fun o x hx hs' => q9 o x (hs o x hx).2 hs'
end
end Go.Proofs.Ytcmaohhcbiienaa.X
