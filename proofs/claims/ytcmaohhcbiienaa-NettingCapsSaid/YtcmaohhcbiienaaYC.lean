import Derived.Test.YtcmaohhcbiienaaYB
import Derived.LoopN
/-! YC: a function's text. -/
set_option linter.unusedVariables false
namespace Go.Proofs.Ytcmaohhcbiienaa.X
open Go.RowKit

section
variable {E : Env} {gen : Nat → Bool} {call : CallF} {base nt nx0 : Nat} {B : Blk} {vis : List Nat} {g g0 : Gh} {w w0 : World} {ob ob0 : ObF} {rt rt0 : RtF} {nx : Nat} {ρ : Operand → AT}

theorem evGen_all {o : Oper} {u : Upd} (h : evGen E ρ o = some u) : u.all = none := by
  unfold evGen at h
  split at h
  · split at h
    · simp only [Option.map_eq_some_iff] at h
      obtain ⟨_, _, rfl⟩ := h
      rfl
    · cases h
  · unfold nilGen at h
    split at h
    · unfold nilB at h
      split at h
      · split at h
        · split at h <;> cases h <;> rfl
        · cases h
      · cases h
    · cases h

def outE : Out → Exit
  | .fall => .normal
  | .exit i => .exit i
  | .ret => .ret

/-- The drawn regions of a text, with what is said of them. -/
def codeOk (pairs : Nat → Option (List (Nat × Nat))) : Code → Bool
  | .region id ops true => match pairs id with
    | some l => regionOk ops l
    | none => true
  | .seq a b | .cond _ a b => codeOk pairs a && codeOk pairs b
  | .block _ b | .loop b => codeOk pairs b
  | _ => true

theorem atJoin_ok (hv : ∀ o, o < base → o ∈ vis) (mem0 : RelM E.G g0 w0 ob0 rt0 nx0 B) {H : Hint} {b : Code} {s s1 : St} {a : Act} (e : Ent E B base nt nx0 vis g0 w0 ob0 rt0 s g a w) (h : atJoin ⟨E, gen, call, base, nt, nx0, vis, H⟩ b s = some s1) :
    ∃ g1, Ent E B base nt nx0 vis g0 w0 ob0 rt0 s1 g1 a w := by
  unfold atJoin at h
  split at h
  · split at h
    · exact head_ok hv mem0 e h
    · cases h; exact ⟨g, e⟩
  · cases h; exact ⟨g, e⟩

theorem code_ok (hm : E.P.follows .mixedOrders = true) (hcall : CallOk E call) (hnt : nt ≤ 4096) (hv : ∀ o, o < base → o ∈ vis) (mem0 : RelM E.G g0 w0 ob0 rt0 nx0 B) {H : Hint} :
    ∀ (n : Nat), (∀ (c : Code) (s s' : St) (out : Out) (g : Gh) (a : Act) (w : World) (Q : Exit → Act → World → Prop), codeOk H.pairs c = true →
      evCode ⟨E, gen, call, base, nt, nx0, vis, H⟩ n c s = some (out, s') → Ent E B base nt nx0 vis g0 w0 ob0 rt0 s g a w →
      (∀ g' a' w', Ent E B base nt nx0 vis g0 w0 ob0 rt0 s' g' a' w' → Q (outE out) a' w') → c.wp E.P Q a w) ∧
      (∀ (c : Code) (s s' : St) (out : Out) (g : Gh) (a : Act) (w : World) (Q : Exit → Act → World → Prop), codeOk H.pairs c = true →
      evCode ⟨E, gen, call, base, nt, nx0, vis, H⟩ n (.loop c) s = some (out, s') → Ent E B base nt nx0 vis g0 w0 ob0 rt0 s g a w →
      (∀ g' a' w', Ent E B base nt nx0 vis g0 w0 ob0 rt0 s' g' a' w' → Q (outE out) a' w') → Code.rounds E.P c Q n a w) := by
  intro n
  induction n with
  | zero => exact ⟨fun c s s' out g a w Q hok h => (by cases h), fun c s s' out g a w Q hok h => (by cases h)⟩
  | succ n ihn =>
    have lo : ∀ (x : Code), (∀ (s s' : St) (out : Out) (g : Gh) (a : Act) (w : World) (Q : Exit → Act → World → Prop), codeOk H.pairs x = true →
        evCode ⟨E, gen, call, base, nt, nx0, vis, H⟩ (n + 1) x s = some (out, s') → Ent E B base nt nx0 vis g0 w0 ob0 rt0 s g a w →
        (∀ g' a' w', Ent E B base nt nx0 vis g0 w0 ob0 rt0 s' g' a' w' → Q (outE out) a' w') → x.wp E.P Q a w) →
        ∀ (s s' : St) (out : Out) (g : Gh) (a : Act) (w : World) (Q : Exit → Act → World → Prop), codeOk H.pairs x = true →
        evCode ⟨E, gen, call, base, nt, nx0, vis, H⟩ (n + 1) (.loop x) s = some (out, s') → Ent E B base nt nx0 vis g0 w0 ob0 rt0 s g a w →
        (∀ g' a' w', Ent E B base nt nx0 vis g0 w0 ob0 rt0 s' g' a' w' → Q (outE out) a' w') → Code.rounds E.P x Q (n + 1) a w := by
      intro x ihx s s' out g a w Q hok h e hQ
      replace h : evCodeA ⟨E, gen, call, base, nt, nx0, vis, H⟩ (evCode ⟨E, gen, call, base, nt, nx0, vis, H⟩ n) (.loop x) s = some (out, s') := h
      simp only [evCodeA] at h
      split at h
      · rename_i s1 hh
        obtain ⟨g1, e1⟩ := head_ok hv mem0 e hh
        rw [rounds_succ]
        split at h
        · rename_i s2 hx
          refine ihx _ _ _ _ _ _ _ hok hx e1 fun g' a' w' e' => ?_
          exact ihn.2 _ _ _ _ _ _ _ _ hok h e' hQ
        · rename_i r hne
          refine ihx _ _ _ _ _ _ _ hok h e1 fun g' a' w' e' => ?_
          cases out with
          | fall => exact absurd h (hne _)
          | exit i => exact hQ _ _ _ e'
          | ret => exact hQ _ _ _ e'
      · cases h
    refine (fun q => ⟨q, fun c => lo c (q c)⟩) ?_
    intro c
    induction c with
    | skip =>
      intro s s' out g a w Q hok h e hQ
      cases h
      exact wp_skip (hQ _ _ _ e)
    | label l =>
      intro s s' out g a w Q hok h e hQ
      cases h
      exact wp_label (hQ _ _ _ e)
    | region id ops draw =>
      intro s s' out g a w Q hok h e hQ
      replace h : evCodeA ⟨E, gen, call, base, nt, nx0, vis, H⟩ (evCode ⟨E, gen, call, base, nt, nx0, vis, H⟩ n) (.region id ops draw) s = some (out, s') := h
      simp only [evCodeA] at h
      split at h
      · rename_i s2 us hr
        split at h
        · rename_i ht
          have go : ∀ {Q' : Exit → Act → World → Prop}, (∀ g' a' w', Ent E B base nt nx0 vis g0 w0 ob0 rt0 s2 g' a' w' → Q' .normal a' w') → Goes E B (base + 16384) nt s g w s2 (Q' .normal) := fun hQ' a' w' g' c' e' =>
            hQ' g' a' w' ⟨c', e.ext.trans (e'.mono (Nat.le_add_right ..))⟩
          split at h
          · rename_i hd
            subst hd
            split at h
            · rename_i l hl
              split at h
              · rename_i hap
                cases h
                simp only [codeOk] at hok
                try simp only at hl
                rw [hl] at hok
                exact region_ok hm hcall hnt hok e.cur hr hap (go hQ)
              · cases h
            · cases h
          · rename_i hd
            obtain rfl : draw = false := by simpa using hd
            cases h
            exact wp_region_list (rows_ok hcall hnt e.cur hr (go hQ))
        · cases h
      · cases h
    | seq x y ihx ihy =>
      intro s s' out g a w Q hok h e hQ
      simp only [codeOk, Bool.and_eq_true] at hok
      replace h : evCodeA ⟨E, gen, call, base, nt, nx0, vis, H⟩ (evCode ⟨E, gen, call, base, nt, nx0, vis, H⟩ n) (.seq x y) s = some (out, s') := h
      simp only [evCodeA] at h
      split at h
      · rename_i s2 hx
        split at h
        · rename_i s3 hj
          refine wp_seq (ihx _ _ _ _ _ _ _ hok.1 hx e fun g' a' w' e' => ?_)
          obtain ⟨g1, e1⟩ := atJoin_ok hv mem0 e' hj
          exact ihy _ _ _ _ _ _ _ hok.2 h e1 hQ
        · cases h
      · rename_i r hne
        refine wp_seq (ihx _ _ _ _ _ _ _ hok.1 h e fun g' a' w' e' => ?_)
        cases out with
        | fall => exact absurd h (hne _)
        | exit i => exact hQ _ _ _ e'
        | ret => exact hQ _ _ _ e'
    | cond c x y ihx ihy =>
      intro s s' out g a w Q hok h e hQ
      simp only [codeOk, Bool.and_eq_true] at hok
      replace h : evCodeA ⟨E, gen, call, base, nt, nx0, vis, H⟩ (evCode ⟨E, gen, call, base, nt, nx0, vis, H⟩ n) (.cond c x y) s = some (out, s') := h
      simp only [evCodeA] at h
      split at h
      · rename_i p t hc
        have hv : a.eval c = .bool t := valOf_eq (e.cur.cur.opd c) (by rw [hc]; rfl)
        cases t
        · exact wp_cond_false hv (ihy _ _ _ _ _ _ _ hok.2 h e hQ)
        · exact wp_cond_true hv (ihx _ _ _ _ _ _ _ hok.1 h e hQ)
      · cases h
    | block id x ihx =>
      intro s s' out g a w Q hok h e hQ
      replace h : evCodeA ⟨E, gen, call, base, nt, nx0, vis, H⟩ (evCode ⟨E, gen, call, base, nt, nx0, vis, H⟩ n) (.block id x) s = some (out, s') := h
      simp only [evCodeA] at h
      split at h
      · rename_i i s2 hx
        refine wp_block (ihx _ _ _ _ _ _ _ hok hx e fun g' a' w' e' => ?_)
        simp only [outE, Exit.inBlock]
        split at h
        · rename_i hi
          cases h
          rw [if_pos hi]
          exact hQ _ _ _ e'
        · rename_i hi
          cases h
          rw [if_neg hi]
          exact hQ _ _ _ e'
      · rename_i r hne
        refine wp_block (ihx _ _ _ _ _ _ _ hok h e fun g' a' w' e' => ?_)
        cases out with
        | fall => exact hQ _ _ _ e'
        | exit i => exact absurd h (hne _ _)
        | ret => exact hQ _ _ _ e'
    | loop x ihx =>
      intro s s' out g a w Q hok h e hQ
      exact wp_loop_rounds (n + 1) (lo x ihx s s' out g a w Q hok h e hQ)
    | exit id =>
      intro s s' out g a w Q hok h e hQ
      cases h
      exact wp_exit (hQ _ _ _ e)
    | ret =>
      intro s s' out g a w Q hok h e hQ
      cases h
      exact wp_ret (hQ _ _ _ e)
    | _ => intro s s' out g a w Q hok h; cases h
end
end Go.Proofs.Ytcmaohhcbiienaa.X
