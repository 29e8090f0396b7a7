import Derived.Test.YtjhljcnjafbkfaaDoorQB4
import Derived.Test.YtjhljcnjafbkfaaDoorQB2
import Derived.WalkKit
import Derived.WalkSpells
import Derived.Lib.LazyBuf
set_option linter.unusedSimpArgs false
set_option linter.unusedVariables false
set_option linter.unusedVariables false
namespace Go.Proofs.YtjhljcnjafbkfaaDoor.X
open Go.RowKit
def slices_Clone_api_Nat_uint32.f (x0 : List Int) : Option (List Int) := if x0.length ≤ 16777216 then some x0 else none
def dec78 : List (List PV) → Option (List Int)
  | [] => some []
  | [.sc (.int .u32 n)] :: l => (dec78 l).map (n :: ·)
  | _ :: _ => none
theorem dec78_e : ∀ l : List Int, dec78 (l.map e78) = some l
  | [] => rfl
  | n :: l => by
    show (dec78 (l.map e78)).map (n :: ·) = _
    rw [dec78_e l]
    rfl
theorem dec78_of : ∀ {rows : List (List PV)} {l : List Int}, dec78 rows = some l → rows = l.map e78
  | [], l, h => by cases h; rfl
  | r :: rows, l, h => by
    unfold dec78 at h
    split at h
    · rename_i e; cases e
    · rename_i n l' e
      simp only [List.cons.injEq] at e
      obtain ⟨rfl, rfl⟩ := e
      simp only [Option.map_eq_some_iff] at h
      obtain ⟨l0, h0, rfl⟩ := h
      rw [dec78_of h0]
      rfl
    · cases h
def ext63 : List Arg → Option (List Arg)
  | [(false, [.sl 1 rows])] => (dec78 rows).bind fun l => (slices_Clone_api_Nat_uint32.f l).map fun r => [aV [.sl 1 (r.map e78)]]
  | _ => none
def extA : ExtF := fun f => if f = 63 then some ext63 else none
theorem slices_Clone_api_Nat_uint32.okE {C : Cx} (hC : C.ext 63 = some ext63) (x0 r : List Int) (h : slices_Clone_api_Nat_uint32.f x0 = some r) :
    Ret C 63 [(false, [.sl 1 (x0.map e78)])] [aV [.sl 1 (r.map e78)]] :=
  ret_ext hC (by simp [ext63, dec78_e, h]) rfl rfl
theorem progOk : ProgOk E0 H0 := progOk_of (by kernel_rfl) (by kernel_rfl)
theorem extOk_none {E : Env} : ExtOk E (fun _ => none) := fun _ _ _ _ h => by cases h
def Owes (E : Env) (f : FuncId) (xs rs : List Arg) : Prop := Enters E.P f ∧
  ∀ (I : Nat → Nat → Prop) (w : World) (vals : Array Value), (∀ k cs, E.G k = some cs → RepP I w (.pointer (some ⟨k, 0, none⟩)) (.ref cs)) → (∀ b i, I b i → b < w.heap.size) → RepAs I w vals.toList xs →
    Calls E.P f vals w fun e w' => ∃ v I', e = .returned v ∧ Below w.heap.size w w' ∧ (∀ b i, b < w.heap.size → (I' b i ↔ I b i)) ∧ (∀ b i, I' b i → b < w'.heap.size) ∧ ResA I' w' v rs
theorem eql_nil_sl (W : World) (A : Option Addr) (n c : Nat) : (binOp .eql 29 (.slice A n c) (.slice none 0 0)).run Tryd.prog W = .ok (.bool A.isNone) W := Lib.run_eql_slice_nil W 29 78 A n c 0 0 (show Tryd.prog.underlying 29 = some (.slice 78) by kernel_rfl)
set_option maxHeartbeats 8000000 in
set_option maxRecDepth 100000 in
theorem clone_empty (A : Option Addr) (cap : Nat) (w : World) : Calls Tryd.prog 63 #[.slice A 0 cap] w fun e w' => (∃ A', e = .returned (.slice A' 0 0) ∧ ∀ a, A' = some a → a.spot = none) ∧ Below w.heap.size w w' := by
  have he := fun W => eql_nil_sl W A 0 cap
  cases A with
  | none =>
    simp only [Option.isNone_none] at he
    go_enter Tryd.func63, Tryd.ntmps63
    go_wp2
    go_ret
    exact ⟨⟨none, rfl, fun a h => by cases h⟩, Below.refl _ _⟩
  | some a =>
    simp only [Option.isNone_some] at he
    go_enter Tryd.func63, Tryd.ntmps63
    go_wp2
    go_ret
    exact ⟨⟨_, rfl, fun a h => by cases h; rfl⟩, (Below.refl _ w).alloc (Nat.le_refl _) _⟩
theorem rep_rows_nil {I : Nat → Nat → Prop} {w : World} {v : Value} {rows : List (List PV)} (h : RepP I w v (.sl 1 rows)) (h0 : rows.length = 0) : ∃ A cap, v = .slice A 0 cap := by
  cases h with
  | sl => exact ⟨_, _, by rw [h0]⟩
theorem rep_nil {I : Nat → Nat → Prop} {w : World} (A : Option Addr) (hA : ∀ a, A = some a → a.spot = none) : RepP I w (.slice A 0 0) (.sl 1 []) :=
  .sl (l := []) (fun _ _ => undef) (Nat.le_refl _) (Nat.zero_le _) (fun _ => rfl) hA (fun i r h => by simp at h) (fun a h i r j x hr => by simp at hr) fun i r j x hr => by simp at hr
theorem owes63 {xs rs : List Arg} (h : ext63 xs = some rs) : Owes E0 63 xs rs := by
  unfold ext63 at h
  split at h
  · rename_i rows
    simp only [Option.bind_eq_some_iff, Option.map_eq_some_iff] at h
    obtain ⟨l, hl, r, hr, rfl⟩ := h
    obtain rfl := dec78_of hl
    unfold slices_Clone_api_Nat_uint32.f at hr
    split at hr
    · rename_i hlen
      cases hr
      refine ⟨⟨Tryd.f63, Tryd.func63, rfl, by kernel_rfl⟩, fun I w vals hG hI ha => ?_⟩
      rcases Nat.eq_zero_or_pos l.length with h0 | h0
      · obtain rfl : l = [] := List.eq_nil_of_length_eq_zero h0
        obtain ⟨h1, h2⟩ := ha
        obtain ⟨v, hv⟩ : ∃ v, vals = #[v] := by
          have : vals.size = 1 := by simpa using h1
          exact ⟨vals[0], by ext i hi hi'; · simpa using this
                             · simp at hi'; simp [hi']⟩
        subst hv
        have h3 : RepP I w v (.sl 1 []) := h2 0 _ v rfl rfl
        obtain ⟨A, cap, rfl⟩ := rep_rows_nil h3 rfl
        refine (clone_empty A cap w).mono fun e w' hq => ?_
        obtain ⟨⟨A', rfl, hA⟩, hb⟩ := hq
        exact ⟨_, I, rfl, hb, fun _ _ _ => Iff.rfl, fun b i q => Nat.lt_of_lt_of_le (hI b i q) hb.size, rep_nil A' hA⟩
      · exact (slices_Clone_api_Nat_uint32_n.ok l l (by unfold slices_Clone_api_Nat_uint32_n.f; rw [if_pos h0, if_pos hlen])).callsI progOk extOk_none hG hI ha
    · cases hr
  · cases h
theorem extA_ok : ExtOk E0 extA := fun f h xs rs hf hx => by
  unfold extA at hf
  split at hf
  · rename_i e
    subst e
    cases hf
    exact owes63 hx
  · cases hf
end Go.Proofs.YtjhljcnjafbkfaaDoor.X
