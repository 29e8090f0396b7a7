import Derived.Test.YtcmaohhcbiienaaXE
/-! XF: append, as a step of a state. -/
set_option linter.unusedVariables false
namespace Go.Proofs.Ytcmaohhcbiienaa.X
open Go.RowKit

section
variable {G : Nat → Option (List PV)} {B : Blk} {base : Nat} {g g' : Gh} {w w' : World} {ob ob' : ObF} {rt rt' : RtF} {nx nx' : Nat}

def given (g : Gh) (I' : Nat → Nat → Prop) (nx : Nat) (v' : Value) (z : Nat) (bo : Option Nat) : Gh := { I := I', φ := g.φ, γ := upd g.γ nx (v', z), β := upd g.β nx bo }

theorem rt_old {n m : Nat} (hm : m < nx) (ht : upd (upd rt n false) nx true m = true) : m ≠ n ∧ rt m = true := by
  rw [upd_ne _ _ (by omega)] at ht
  by_cases e : m = n
  · subst e
    rw [upd_same] at ht
    cases ht
  · rw [upd_ne _ _ e] at ht
    exact ⟨e, ht⟩

/-- One right is used up, a new one is given. -/
theorem RelM.right (h : RelM G g w ob rt nx B) (hb : ∀ o, (ob o).isSome → o < base) (n : Nat) (I' : Nat → Nat → Prop) (w' : World) (v' : Value) (z : Nat) (bo : Option Nat)
    (h1 : Keep B w w') (h2 : ∀ b i, g.I b i → I' b i) (h3 : ∀ b i, B b → I' b i → g.I b i) (h4 : ∀ b i, g.I b i → w'.cell? ⟨b, i, none⟩ = w.cell? ⟨b, i, none⟩)
    (h5 : ∀ b, b < w.heap.size → bo ≠ some b → w'.heap[b]? = w.heap[b]? ∧ ∀ i, I' b i → g.I b i)
    (h6 : ∀ b, bo = some b → (∀ o x, ob o = some x → x.solid → g.φ o ≠ b) ∧ ∀ m, m ≠ 0 → m < nx → rt m = true → m ≠ n → g.β m ≠ some b)
    (h7 : OwnR (given g I' nx v' z bo) w' ob B nx) (h8 : ∀ b i, I' b i → b < w'.heap.size) :
    Ext B base g w ob rt nx (given g I' nx v' z bo) w' ob (upd (upd rt n false) nx true) (nx + 1) ∧ RelM G (given g I' nx v' z bo) w' ob (upd (upd rt n false) nx true) (nx + 1) B := by
  have hE : Ext B base g w ob rt nx (given g I' nx v' z bo) w' ob (upd (upd rt n false) nx true) (nx + 1) :=
    ⟨h1, h2, h3, h4, fun o x _ hx => ⟨x, hx, .refl x⟩, fun _ _ _ => rfl, fun m hm ht => ⟨(rt_old hm ht).2, upd_ne _ _ (by omega)⟩, Nat.le_succ _⟩
  refine ⟨hE, { pos := Nat.succ_pos _, glob := fun k cs hk => (h.glob k cs hk).ext hE, size := fun b hb => Nat.lt_of_lt_of_le (h.size b hb) h1.size, obj := ?_, inj := h.inj, own := ?_, apart := ?_, bnd := h8 }⟩
  · intro o x hx
    obtain ⟨q, r⟩ := h.obj o x hx
    have hne : x.solid → bo ≠ some (g.φ o) := fun hs e => (h6 _ e).1 o x hx hs rfl
    exact ⟨q.ext hE hb (fun hs => (h5 _ (q.lt hs) (hne hs)).1) (fun hs => (h5 _ (q.lt hs) (hne hs)).2), r⟩
  · intro m m0 hm ht
    by_cases e : m = nx
    · exact e ▸ h7
    · obtain ⟨hmn, hmt⟩ := rt_old (by omega) ht
      have k := h.own m m0 (by omega) hmt
      refine k.ext (upd_ne _ _ e) (upd_ne _ _ e) fun b hβ => ?_
      have hne : bo ≠ some b := fun e' => (h6 b e').2 m m0 (by omega) hmt hmn hβ
      obtain ⟨a, c⟩ := h5 b (k.lt hβ).1 hne
      refine ⟨a, c, ?_⟩
      cases k with
      | full A k z h hb' => rw [hb'] at hβ; cases hβ
      | own b' len cap z e cur h hb' hB q1 q2 q3 q4 q5 q6 =>
        rw [hb'] at hβ
        cases hβ
        exact q6
  · intro p q b p0 q0 hp hq tp tq bp bq
    have old : ∀ p, p ≠ nx → p < nx + 1 → upd (upd rt n false) nx true p = true → p < nx ∧ p ≠ n ∧ rt p = true := by
      intro p hpn hp tp
      have hlt : p < nx := by omega
      exact ⟨hlt, rt_old hlt tp⟩
    by_cases e1 : p = nx <;> by_cases e2 : q = nx
    · rw [e1, e2]
    · obtain ⟨hlt, hne, ht⟩ := old q e2 hq tq
      simp only [given, e1, upd_same, upd_ne _ _ e2] at bp bq
      exact absurd bq ((h6 b bp).2 q q0 hlt ht hne)
    · obtain ⟨hlt, hne, ht⟩ := old p e1 hp tp
      simp only [given, e2, upd_same, upd_ne _ _ e1] at bp bq
      exact absurd bp ((h6 b bq).2 p p0 hlt ht hne)
    · obtain ⟨hlt, hne, ht⟩ := old p e1 hp tp
      obtain ⟨hlt', hne', ht'⟩ := old q e2 hq tq
      simp only [given, upd_ne _ _ e1, upd_ne _ _ e2] at bp bq
      exact h.apart p q b p0 q0 hlt hlt' ht ht' bp bq

theorem RelC.slice {n z : Nat} {v : Value} {l : List (List PV)} (k : RelC g w ob rt nx v (.p (some n) (.sl z l))) :
    RepP g.I w v (.sl z l) ∧ (n = 0 → ∃ A k, v = .slice A k k) ∧ (n ≠ 0 → n < nx ∧ (rt n = true → g.γ n = (v, z))) := by
  cases k with
  | p0 k => exact ⟨k, fun _ => ⟨_, _, rfl⟩, fun h => absurd rfl h⟩
  | pn h0 h1 k hg => exact ⟨k, fun h => absurd h h0, fun _ => ⟨h1, hg⟩⟩

theorem append_step {P : Program} (t ty e : TypeId) (i : TypeInfo) (zz : Value) (ht : P.underlying t = some (.slice e)) (hi : P.info? e = some i) (hzv : i.zero = some zz)
    {z : Nat} (hsz : i.size = z) (h0 : 0 < z) (hzz : zz.cells.size = z) (hby : i.bytes ≤ 4096)
    (h : RelM G g w ob rt nx B) (hb : ∀ o, (ob o).isSome → o < base) {n : Nat} {v u : Value} {l l' : List (List PV)}
    (k : RelC g w ob rt nx v (.p (some n) (.sl z l))) (hn : n = 0 ∨ rt n = true) (k' : RepP g.I w u (.sl z l')) (hlen : l.length + l'.length ≤ 16777216) :
    ∃ v' w' g', (Builtin.append_ #[t, t] ty #[v, u]).run P w = .ok v' w' ∧
      Ext B base g w ob rt nx g' w' ob (upd (upd rt n false) nx true) (nx + 1) ∧ RelM G g' w' ob (upd (upd rt n false) nx true) (nx + 1) B ∧
      RelC g' w' ob (upd (upd rt n false) nx true) (nx + 1) v' (.p (some nx) (.sl z (l ++ l'))) := by
  obtain ⟨kr, kf, kn⟩ := k.slice
  have hnx := h.pos
  -- the two slices
  obtain ⟨A, cap, rfl, hcap, hmax, hnil⟩ : ∃ A cap, v = .slice A l.length cap ∧ l.length ≤ cap ∧ cap ≤ maxLen ∧ (A = none → cap = 0) := by
    cases kr with
    | sl f h1 h2 h3 => exact ⟨_, _, rfl, h1, h2, h3⟩
  obtain ⟨A', cap', rfl, hcap', hnil'⟩ : ∃ A cap, u = .slice A l'.length cap ∧ l'.length ≤ cap ∧ (A = none → cap = 0) := by
    cases k' with
    | sl f h1 h2 h3 => exact ⟨_, _, rfl, h1, h3⟩
  have hown : n ≠ 0 → n < nx ∧ rt n = true ∧ g.γ n = (.slice A l.length cap, z) ∧ OwnR g w ob B n := by
    intro hne
    obtain ⟨a, b⟩ := kn hne
    have ht := hn.resolve_left hne
    exact ⟨a, ht, b ht, h.own n hne a ht⟩
  have hnew : ∀ v' : Value, upd (upd rt n false) nx true nx = true → (given g g.I nx v' z none).γ nx = (v', z) := fun v' _ => upd_same _ _ _
  by_cases hm : l'.length = 0
  · -- nothing is appended
    have hl' : l' = [] := List.eq_nil_of_length_eq_zero hm
    subst hl'
    refine ⟨_, w, given g g.I nx (.slice A l.length cap) z (if n = 0 then none else g.β n), append_none t ty e i ht hi A _ cap hcap A' cap', ?_⟩
    obtain ⟨hE, hM⟩ := h.right hb n g.I w (.slice A l.length cap) z (if n = 0 then none else g.β n) (Keep.refl B w) (fun _ _ q => q) (fun _ _ _ q => q) (fun _ _ _ => rfl)
      (fun _ _ _ => ⟨rfl, fun _ q => q⟩) (fun b hbo => by
        by_cases hne : n = 0
        · simp [hne] at hbo
        · simp only [hne, if_false] at hbo
          obtain ⟨a, c, d, k⟩ := hown hne
          refine ⟨?_, fun m m0 hm ht hmn hβ => hmn (h.apart m n b m0 hne hm a ht c hβ hbo)⟩
          cases k with
          | full A k z h hb' => rw [hb'] at hbo; cases hbo
          | own b' len cap z e cur h hb' hB q1 q2 q3 q4 q5 q6 =>
            rw [hb'] at hbo
            cases hbo
            exact q6)
      (by
        by_cases hne : n = 0
        · obtain ⟨A2, k2, e2⟩ := kf hne
          cases e2
          exact .full A l.length z (upd_same _ _ _) (by simp [given, hne, upd_same])
        · obtain ⟨a, c, d, k⟩ := hown hne
          cases k with
          | full A2 k2 z2 h2 hb' =>
            rw [d] at h2
            cases h2
            exact .full _ _ z (upd_same _ _ _) (by simp [given, hne, upd_same, hb'])
          | own b' len2 cap2 z2 e2 cur h2 hb' hB q1 q2 q3 q4 q5 q6 =>
            rw [d] at h2
            cases h2
            exact .own b' _ _ z e2 cur (upd_same _ _ _) (by simp [given, hne, upd_same, hb']) hB q1 q2 q3 q4 q5 q6)
      h.bnd
    refine ⟨hE, hM, ?_⟩
    rw [List.append_nil]
    exact .pn (by omega) (by omega) (kr.ext hE) fun _ => upd_same _ _ _
  · have hm0 : 0 < l'.length := Nat.pos_of_ne_zero hm
    obtain ⟨a', rfl⟩ : ∃ a, A' = some a := by
      cases A' with
      | none => have := hnil' rfl; omega
      | some a => exact ⟨a, rfl⟩
    obtain ⟨_, _, news, hnl, hnc, hn1, hnr⟩ := k'.cells
    by_cases hroom : l.length + l'.length ≤ cap
    · -- into the room that is there
      have hne : n ≠ 0 := by
        intro e0
        obtain ⟨A2, k2, e2⟩ := kf e0
        cases e2
        omega
      obtain ⟨ha, hc, hd, ho⟩ := hown hne
      cases ho with
      | full A2 k2 z2 h2 hb' =>
        rw [hd] at h2
        cases h2
        omega
      | own b len2 cap2 z2 e2 cur h2 hb' hB q1 q2 q3 q4 q5 q6 =>
        rw [hd] at h2
        cases h2
        have hnews : ∀ j u, news[j]? = some u → w.cell? (a'.add j) = some u := fun j u hu => (hnc j u hu).2
        have hfit : l.length * i.size + news.length ≤ cur.size := by
          rw [hsz, hnl, q4, ← Nat.add_mul]
          exact Nat.mul_le_mul_right _ hroom
        have hr := append_room (P := P) (w := w) t ty e e2 i ht hi b l.length cap cur q1 a' l'.length cap' news (by rw [hnl, hsz]) hnews hn1 hroom hfit
        rw [hsz] at hr hfit
        obtain ⟨_, _, olds, hol, hoc, ho1, hor⟩ := kr.cells
        have hbs : b < w.heap.size := (Array.getElem?_eq_some_iff.1 q1).1
        have hcl : cur.toList.length = cur.size := Array.length_toList
        have hrow := setRow_heap w b cur (cur.toList.take (l.length * z) ++ news ++ cur.toList.drop (l.length * z + news.length)).toArray e2 (0, 0) q1
        have hcellOld : ∀ c i, c ≠ b → (w.setRow b (cur.toList.take (l.length * z) ++ news ++ cur.toList.drop (l.length * z + news.length)).toArray).cell? ⟨c, i, none⟩ = w.cell? ⟨c, i, none⟩ :=
          fun c i hcb => World.cell?_of_block (w := w) (a := ⟨c, i, none⟩) (setRow_other w b c _ hcb)
        have hcellB : ∀ i, i < l.length * z → (w.setRow b (cur.toList.take (l.length * z) ++ news ++ cur.toList.drop (l.length * z + news.length)).toArray).cell? ⟨b, i, none⟩ = w.cell? ⟨b, i, none⟩ := by
          intro i hi
          rw [cell_of_row _ b i _ e2 (0, 0) hrow, cell_of_row w b i cur e2 (0, 0) q1, List.getElem?_toArray, List.append_assoc,
            List.getElem?_append_left (by rw [List.length_take, hcl]; omega), List.getElem?_take, if_pos hi, Array.getElem?_toList]
        have hcellN : ∀ j, j < news.length → (w.setRow b (cur.toList.take (l.length * z) ++ news ++ cur.toList.drop (l.length * z + news.length)).toArray).cell? ⟨b, l.length * z + j, none⟩ = news[j]? := by
          intro j hj
          have hlt : (cur.toList.take (l.length * z)).length = l.length * z := by rw [List.length_take, hcl]; omega
          rw [cell_of_row _ b _ _ e2 (0, 0) hrow, List.getElem?_toArray, List.append_assoc, List.getElem?_append_right (by omega), hlt, Nat.add_sub_cancel_left, List.getElem?_append_left hj]
        obtain ⟨hE, hM⟩ := h.right hb n (fun c j => g.I c j ∨ (c = b ∧ j < (l.length + l'.length) * z)) _ (.slice (some ⟨b, 0, none⟩) (l.length + l'.length) cap) z (some b)
          (⟨rfl, rfl, rfl, by simp, fun c hc => setRow_other w b c _ (fun e => hB (e ▸ hc))⟩ : Keep B w (w.setRow b (cur.toList.take (l.length * z) ++ news ++ cur.toList.drop (l.length * z + news.length)).toArray))
          (fun _ _ q => .inl q)
          (fun c j hcB q => by
            rcases q with q | ⟨rfl, _⟩
            · exact q
            · exact absurd hcB hB)
          (fun c j q => by
            by_cases hcb : c = b
            · subst hcb
              exact hcellB j (Nat.lt_of_not_le fun hle => q5 j hle q)
            · exact hcellOld c j hcb)
          (fun c hcs hne' => ⟨setRow_other w b c _ (fun e' => hne' (by rw [e'])), fun j q => by
            rcases q with q | ⟨rfl, _⟩
            · exact q
            · exact absurd rfl hne'⟩)
          (fun c hc' => by
            cases hc'
            exact ⟨q6, fun m m0 hm' ht' hmn hβ => hmn (h.apart m n b m0 hne hm' ha ht' hc hβ hb')⟩)
          (.own b _ cap z e2 _ (upd_same _ _ _) (upd_same _ _ _) hB hrow hroom q3
            (by simp only [List.size_toArray, List.length_append, List.length_take, List.length_drop, hcl]; omega)
            (fun j hj q => by
              rcases q with q | ⟨_, q⟩
              · refine q5 j ?_ q
                rw [Nat.add_mul] at hj
                omega
              · omega)
            q6)
          (fun c j q => by
            rcases q with q | ⟨rfl, _⟩
            · simpa using h.bnd c j q
            · simpa using hbs)
        refine ⟨_, _, _, hr, hE, hM, .pn (by omega) (by omega) ?_ fun _ => upd_same _ _ _⟩
        have := RepP.ofCells (I := (given g (fun c j => g.I c j ∨ (c = b ∧ j < (l.length + l'.length) * z)) nx (.slice (some ⟨b, 0, none⟩) (l.length + l'.length) cap) z (some b)).I)
          (w := w.setRow b (cur.toList.take (l.length * z) ++ news ++ cur.toList.drop (l.length * z + news.length)).toArray) (b := b) (o := 0) (cap := cap) (z := z) (l := l ++ l') (olds ++ news)
          (by rw [List.length_append, hol, hnl, List.length_append, Nat.add_mul])
          (fun j v hv => by
            have hlt : j < (olds ++ news).length := (List.getElem?_eq_some_iff.1 hv).1
            rw [List.length_append, hol, hnl, ← Nat.add_mul] at hlt
            simp only [Nat.zero_add]
            refine ⟨.inr ⟨rfl, hlt⟩, ?_⟩
            rw [List.getElem?_append] at hv
            split at hv
            · rename_i hjo
              rw [hcellB j (by omega)]
              have := (hoc j v hv).2
              rwa [Addr.add_lit, Nat.zero_add] at this
            · rename_i hjo
              have := hcellN (j - olds.length) (List.getElem?_eq_some_iff.1 hv).1
              rw [hv, hol, Nat.add_sub_cancel' (by omega)] at this
              exact this)
          (by rw [List.length_append]; exact hroom) q3 (len_append kr.z k'.z)
          (rows_append hol (fun i r j x hr hx => by
            obtain ⟨v, hv, q⟩ := hor i r j x hr hx
            exact ⟨v, hv, q.ext hE⟩) (fun i r j x hr hx => by
            obtain ⟨v, hv, q⟩ := hnr i r j x hr hx
            exact ⟨v, hv, q.ext hE⟩) kr.z)
        rw [List.length_append] at this
        exact this
    · -- a new block
      have hneed : l.length + l'.length ≤ maxLen := by simp only [maxLen]; omega
      have hnews : ∀ j u, news[j]? = some u → w.cell? (a'.add j) = some u := fun j u hu => (hnc j u hu).2
      have hbytes : (l.length + l'.length) * i.bytes ≤ 140737488355328 := Nat.le_trans (Nat.mul_le_mul hlen hby) (by decide)
      obtain ⟨olds, hol, ho1, hor, hr⟩ : ∃ olds : List Value, olds.length = l.length * z ∧ True ∧
          (∀ (i : Nat) (r : List PV) (j : Nat) (x : PV), l[i]? = some r → r[j]? = some x → ∃ v, olds[i * z + j]? = some v ∧ RepP g.I w v x) ∧
          (Builtin.append_ #[t, t] ty #[.slice A l.length cap, .slice (some a') l'.length cap']).run P w =
            .ok (.slice (some ⟨w.heap.size, 0, none⟩) (l.length + l'.length) (grownCap w (l.length + l'.length) cap e))
              (w.drew.alloc (.cells (olds.toArray ++ news.toArray ++ Builtin.zeroCells zz.cells (grownCap w (l.length + l'.length) cap e - (l.length + l'.length))) e)) := by
        cases A with
        | none =>
          have hc0 := hnil rfl
          have hl0 : l.length = 0 := by omega
          have hl : l = [] := List.eq_nil_of_length_eq_zero hl0
          subst hl
          subst hc0
          refine ⟨[], by simp, trivial, fun i r j x hr => by simp at hr, ?_⟩
          have := run_append_nil (P := P) w t ty e i zz ht hi hzv a' l'.length cap' news (by rw [hnl, hsz]) hnews hm0 (by simp only [maxLen] at hneed; simp at hneed; omega) (by simp at hbytes; omega)
          simpa using this
        | some a =>
          obtain ⟨_, _, olds, hol, hoc, ho1, hor⟩ := kr.cells
          exact ⟨olds, hol, trivial, hor, run_append_grow (P := P) w t ty e i zz ht hi hzv a l.length cap olds (by rw [hol, hsz]) (fun j u hu => (hoc j u hu).2) a' l'.length cap' news (by rw [hnl, hsz]) hnews
            (by omega) (by simp only [maxLen] at hneed; omega) (growslice_fits (by omega) hbytes)⟩
      have hge := grownCap_ge w (l.length + l'.length) cap e
      have hle := grownCap_le_maxLen w (l.length + l'.length) cap e hneed
      have hcell : ∀ j, (w.drew.alloc (.cells (olds.toArray ++ news.toArray ++ Builtin.zeroCells zz.cells (grownCap w (l.length + l'.length) cap e - (l.length + l'.length))) e)).cell? ⟨w.heap.size, j, none⟩ =
          (olds.toArray ++ news.toArray ++ Builtin.zeroCells zz.cells (grownCap w (l.length + l'.length) cap e - (l.length + l'.length)))[j]? :=
        fun j => World.cell?_alloc_new w.drew _ e j
      have hheap : (w.drew.alloc (.cells (olds.toArray ++ news.toArray ++ Builtin.zeroCells zz.cells (grownCap w (l.length + l'.length) cap e - (l.length + l'.length))) e)).heap[w.heap.size]? =
          some (.cells (olds.toArray ++ news.toArray ++ Builtin.zeroCells zz.cells (grownCap w (l.length + l'.length) cap e - (l.length + l'.length))) e) := heap_alloc_new w.drew _
      obtain ⟨hE, hM⟩ := h.right hb n (fun c j => g.I c j ∨ (c = w.heap.size ∧ j < (l.length + l'.length) * z)) _
        (.slice (some ⟨w.heap.size, 0, none⟩) (l.length + l'.length) (grownCap w (l.length + l'.length) cap e)) z (some w.heap.size)
        ((Keep.refl B w).drew.alloc h.size (.cells (olds.toArray ++ news.toArray ++ Builtin.zeroCells zz.cells (grownCap w (l.length + l'.length) cap e - (l.length + l'.length))) e))
        (fun _ _ q => .inl q)
        (fun c j hcB q => by
          rcases q with q | ⟨rfl, _⟩
          · exact q
          · exact absurd (h.size _ hcB) (Nat.lt_irrefl _))
        (fun c j q => World.cell?_alloc_lt w.drew _ _ (h.bnd c j q))
        (fun c hcs hne' => ⟨heap_alloc_old w.drew _ c hcs, fun j q => by
          rcases q with q | ⟨rfl, _⟩
          · exact q
          · exact absurd rfl hne'⟩)
        (fun c hc' => by
          cases hc'
          refine ⟨fun o x hx hs => ?_, fun m m0 hm' ht' hmn hβ => absurd ((h.own m m0 hm' ht').lt hβ).1 (Nat.lt_irrefl _)⟩
          have := (h.obj o x hx).1.lt hs
          omega)
        (.own w.heap.size _ _ z e _ (upd_same _ _ _) (upd_same _ _ _) (fun hB => absurd (h.size _ hB) (Nat.lt_irrefl _)) hheap hge hle
          (by
            simp only [Array.size_append, List.size_toArray, size_zeroCells, hzz, hol, hnl, ← Nat.add_mul]
            congr 1
            omega)
          (fun j hj q => by
            rcases q with q | ⟨_, q⟩
            · exact absurd (h.bnd _ j q) (Nat.lt_irrefl _)
            · omega)
          (fun o x hx hs => by
            have := (h.obj o x hx).1.lt hs
            show g.φ o ≠ _
            omega))
        (fun c j q => by
          rcases q with q | ⟨rfl, _⟩
          · have := h.bnd c j q
            simp
            omega
          · simp)
      refine ⟨_, _, _, hr, hE, hM, .pn (by omega) (by omega) ?_ fun _ => upd_same _ _ _⟩
      have := RepP.ofCells (I := (given g (fun c j => g.I c j ∨ (c = w.heap.size ∧ j < (l.length + l'.length) * z)) nx (.slice (some ⟨w.heap.size, 0, none⟩) (l.length + l'.length) (grownCap w (l.length + l'.length) cap e)) z (some w.heap.size)).I)
        (w := w.drew.alloc (.cells (olds.toArray ++ news.toArray ++ Builtin.zeroCells zz.cells (grownCap w (l.length + l'.length) cap e - (l.length + l'.length))) e)) (b := w.heap.size) (o := 0)
        (cap := grownCap w (l.length + l'.length) cap e) (z := z) (l := l ++ l') (olds ++ news)
        (by rw [List.length_append, hol, hnl, List.length_append, Nat.add_mul])
        (fun j v hv => by
          have hlt : j < (olds ++ news).length := (List.getElem?_eq_some_iff.1 hv).1
          simp only [Nat.zero_add]
          refine ⟨.inr ⟨rfl, ?_⟩, ?_⟩
          · rwa [List.length_append, hol, hnl, ← Nat.add_mul] at hlt
          · rw [hcell, Array.getElem?_append_left (by simpa using hlt)]
            simpa using hv)
        (by rw [List.length_append]; exact hge) hle (len_append kr.z k'.z)
        (rows_append hol (fun i r j x hr hx => by
          obtain ⟨v, hv, q⟩ := hor i r j x hr hx
          exact ⟨v, hv, q.ext hE⟩) (fun i r j x hr hx => by
          obtain ⟨v, hv, q⟩ := hnr i r j x hr hx
          exact ⟨v, hv, q.ext hE⟩) kr.z)
      rw [List.length_append] at this
      exact this
end
end Go.Proofs.Ytcmaohhcbiienaa.X
