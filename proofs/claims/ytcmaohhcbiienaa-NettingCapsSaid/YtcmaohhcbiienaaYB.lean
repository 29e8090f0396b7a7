import Derived.Test.YtcmaohhcbiienaaXZ
/-! YB: the head of a loop, whole. -/
set_option linter.unusedVariables false
namespace Go.Proofs.Ytcmaohhcbiienaa.X
open Go.RowKit

section
variable {E : Env} {B : Blk} {base lim nt nx0 m : Nat} {g g' g0 : Gh} {w w' w0 : World} {ob ob0 F : ObF} {rt rt0 : RtF} {nx : Nat} {os : List Nat} {vis : List Nat}

/-- What is held all along a call: where it began, and where it stands. -/
structure Ent (E : Env) (B : Blk) (base nt nx0 : Nat) (vis : List Nat) (g0 : Gh) (w0 : World) (ob0 : ObF) (rt0 : RtF) (s : St) (g : Gh) (a : Act) (w : World) : Prop where
  cur : CurN E B (base + 16384) nt s g a w
  ext : Ext B base g0 w0 ob0 rt0 nx0 g w s.ob s.rt s.nx

theorem head_ok (hv : ∀ o, o < base → o ∈ vis) (mem0 : RelM E.G g0 w0 ob0 rt0 nx0 B) {s s1 : St} {h : List Nat} {a : Act} (e : Ent E B base nt nx0 vis g0 w0 ob0 rt0 s g a w) (hh : head base nx0 vis h s = some s1) :
    ∃ g1, Ent E B base nt nx0 vis g0 w0 ob0 rt0 s1 g1 a w := by
  obtain ⟨⟨⟨hm, hlab, htm⟩, hsz, hdf⟩, he⟩ := e
  obtain ⟨γ2, β2, a1, a2, a3, a4, a5, a6, a7, a8, a9⟩ := head_core (ev := fun t => a.eval (.tmp t)) hm mem0.pos he.nx htm (fun o _ ho => hv o ho) hh
  refine ⟨⟨g.I, g.φ, γ2, β2⟩, ⟨⟨⟨a1, fun o ho => ?_, a2⟩, hsz, hdf⟩, ?_⟩⟩
  · obtain ⟨x, hx⟩ := Option.isSome_iff_exists.1 ho
    obtain ⟨y, hy, _⟩ := a3 o x hx
    exact hlab o (by rw [hy]; rfl)
  · refine ⟨he.below, he.I, he.old, he.cell, fun o x ho hx => ?_, he.φ, fun n hn ht => ?_, a6⟩
    · obtain ⟨y, hy, l⟩ := he.like o x ho hx
      obtain ⟨z, hz, l'⟩ := a4 o y hy (.inl ho)
      exact ⟨z, hz, l.trans l'⟩
    · obtain ⟨h1, h2⟩ := a5 n hn ht
      obtain ⟨h3, h4⟩ := he.rt n hn h1
      exact ⟨h3, h2.trans h4⟩
end
end Go.Proofs.Ytcmaohhcbiienaa.X
