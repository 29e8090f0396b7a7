import Derived.Test.YtcmaohhcbiienaaXD
/-! XE: append, by a right. -/
set_option linter.unusedVariables false
namespace Go.Proofs.Ytcmaohhcbiienaa.X
open Go.RowKit

theorem flat_one {v : Value} (h : flatV v = true) : v.oneCell' = true := by cases v <;> first | rfl | simp [flatV] at h

/-- The values of a slice's cells, one behind the other. -/
theorem RepP.cells {I : Nat → Nat → Prop} {w : World} {a : Addr} {n cap z : Nat} {l : List (List PV)} (h : RepP I w (.slice (some a) n cap) (.sl z l)) :
    n = l.length ∧ a.spot = none ∧ ∃ cs : List Value, cs.length = l.length * z ∧ (∀ (j : Nat) (v : Value), cs[j]? = some v → I a.block (a.off + j) ∧ w.cell? (a.add j) = some v) ∧ (∀ v ∈ cs, v.oneCell' = true) ∧
      ∀ (i : Nat) (r : List PV) (j : Nat) (x : PV), l[i]? = some r → r[j]? = some x → ∃ v, cs[i * z + j]? = some v ∧ RepP I w v x := by
  cases h with
  | sl f h1 h2 h3 h4 h5 h6 h7 =>
    refine ⟨rfl, h4 a rfl, (List.range (l.length * z)).map (fun k => f (k / z) (k % z)), by simp, ?_, ?_, ?_⟩
    · intro j v hv
      simp only [List.getElem?_map, Option.map_eq_some_iff] at hv
      obtain ⟨k, hk, rfl⟩ := hv
      obtain ⟨hlt, he⟩ := List.getElem?_eq_some_iff.1 hk
      simp only [List.length_range] at hlt
      simp only [List.getElem_range] at he
      subst he
      have hz : 0 < z := Nat.pos_of_ne_zero fun h => by subst h; simp at hlt
      have hi : j / z < l.length := (Nat.div_lt_iff_lt_mul hz).2 hlt
      have hr : l[j / z]? = some l[j / z] := List.getElem?_eq_getElem hi
      have hm : j % z < l[j / z].length := by rw [h5 _ _ hr]; exact Nat.mod_lt _ hz
      have hx : l[j / z][j % z]? = some l[j / z][j % z] := List.getElem?_eq_getElem hm
      have e : j / z * z + j % z = j := by rw [Nat.mul_comm]; exact Nat.div_add_mod j z
      have := h6 a rfl _ _ _ _ hr hx
      rw [e] at this
      refine ⟨this.1, ?_⟩
      have ha : a.add j = ⟨a.block, a.off + j, none⟩ := by
        have hs := h4 a rfl
        obtain ⟨b, o, s⟩ := a
        subst hs
        exact Addr.add_lit b o j
      rw [ha]
      exact this.2
    · intro v hv
      obtain ⟨k, hk, rfl⟩ := List.mem_map.1 hv
      have hlt : k < l.length * z := List.mem_range.1 hk
      have hz : 0 < z := Nat.pos_of_ne_zero fun h => by subst h; simp at hlt
      have hi : k / z < l.length := (Nat.div_lt_iff_lt_mul hz).2 hlt
      have hr : l[k / z]? = some l[k / z] := List.getElem?_eq_getElem hi
      have hm : k % z < l[k / z].length := by rw [h5 _ _ hr]; exact Nat.mod_lt _ hz
      exact flat_one (h7 _ _ _ _ hr (List.getElem?_eq_getElem hm)).flat
    · intro i r j x hr hx
      have hi := (List.getElem?_eq_some_iff.1 hr).1
      have hj : j < z := by rw [← h5 _ _ hr]; exact (List.getElem?_eq_some_iff.1 hx).1
      have hz : 0 < z := by omega
      refine ⟨f i j, ?_, h7 i r j x hr hx⟩
      rw [List.getElem?_map, List.getElem?_range (at_lt hi hj)]
      have h1 : (i * z + j) / z = i := by rw [Nat.mul_comm, Nat.mul_add_div hz, Nat.div_eq_of_lt hj, Nat.add_zero]
      have h2 : (i * z + j) % z = j := by rw [Nat.mul_comm, Nat.mul_add_mod, Nat.mod_eq_of_lt hj]
      simp [h1, h2]

theorem RepP.z {I : Nat → Nat → Prop} {w : World} {v : Value} {z : Nat} {l : List (List PV)} (h : RepP I w v (.sl z l)) : ∀ (i : Nat) (r : List PV), l[i]? = some r → r.length = z := by
  cases h with
  | sl f h1 h2 h3 h4 h5 => exact h5

/-- A slice out of the cells of a block. -/
theorem RepP.ofCells {I : Nat → Nat → Prop} {w : World} {b o cap z : Nat} {l : List (List PV)} (cs : List Value) (hc : cs.length = l.length * z)
    (h : ∀ (j : Nat) (v : Value), cs[j]? = some v → I b (o + j) ∧ w.cell? ⟨b, o + j, none⟩ = some v) (hcap : l.length ≤ cap) (hmax : cap ≤ maxLen)
    (hz : ∀ (i : Nat) (r : List PV), l[i]? = some r → r.length = z)
    (hR : ∀ (i : Nat) (r : List PV) (j : Nat) (x : PV), l[i]? = some r → r[j]? = some x → ∃ v, cs[i * z + j]? = some v ∧ RepP I w v x) :
    RepP I w (.slice (some ⟨b, o, none⟩) l.length cap) (.sl z l) := by
  refine .sl (fun i j => (cs[i * z + j]?).getD undef) hcap hmax (by simp) (fun a ha => by cases ha; rfl) hz (fun a ha i r j x hr hx => ?_) fun i r j x hr hx => ?_
  · cases ha
    obtain ⟨v, hv, _⟩ := hR i r j x hr hx
    obtain ⟨p, q⟩ := h _ v hv
    exact ⟨p, by rw [q, hv]; rfl⟩
  · obtain ⟨v, hv, q⟩ := hR i r j x hr hx
    rw [hv]
    exact q

/-- Rows, and more rows. -/
theorem rows_append {I : Nat → Nat → Prop} {w : World} {z : Nat} {l l' : List (List PV)} {cs cs' : List Value} (hc : cs.length = l.length * z)
    (h : ∀ (i : Nat) (r : List PV) (j : Nat) (x : PV), l[i]? = some r → r[j]? = some x → ∃ v, cs[i * z + j]? = some v ∧ RepP I w v x)
    (h' : ∀ (i : Nat) (r : List PV) (j : Nat) (x : PV), l'[i]? = some r → r[j]? = some x → ∃ v, cs'[i * z + j]? = some v ∧ RepP I w v x)
    (hz : ∀ (i : Nat) (r : List PV), l[i]? = some r → r.length = z) :
    ∀ (i : Nat) (r : List PV) (j : Nat) (x : PV), (l ++ l')[i]? = some r → r[j]? = some x → ∃ v, (cs ++ cs')[i * z + j]? = some v ∧ RepP I w v x := by
  intro i r j x hr hx
  rw [List.getElem?_append] at hr
  split at hr
  · obtain ⟨v, hv, q⟩ := h i r j x hr hx
    refine ⟨v, ?_, q⟩
    rw [List.getElem?_append_left (List.getElem?_eq_some_iff.1 hv).1]
    exact hv
  · rename_i hge
    obtain ⟨v, hv, q⟩ := h' _ r j x hr hx
    refine ⟨v, ?_, q⟩
    have e : i * z + j = l.length * z + ((i - l.length) * z + j) := by
      have : i = l.length + (i - l.length) := by omega
      conv => lhs; rw [this]
      rw [Nat.add_mul]
      omega
    rw [e, ← hc, List.getElem?_append_right (by omega), Nat.add_sub_cancel_left]
    exact hv
theorem len_append {z : Nat} {l l' : List (List PV)} (hz : ∀ (i : Nat) (r : List PV), l[i]? = some r → r.length = z) (hz' : ∀ (i : Nat) (r : List PV), l'[i]? = some r → r.length = z) :
    ∀ (i : Nat) (r : List PV), (l ++ l')[i]? = some r → r.length = z := by
  intro i r hr
  rw [List.getElem?_append] at hr
  split at hr
  · exact hz _ _ hr
  · exact hz' _ _ hr

section
variable {P : Program} {w : World}

/-- Room enough: the block's own kind does not count. -/
theorem append_room (t ty e e' : TypeId) (i : TypeInfo) (ht : P.underlying t = some (.slice e)) (hi : P.info? e = some i)
    (g sLen sCap : Nat) (cur : Array Value) (hg : w.heap[g]? = some (.cells cur e' (0, 0)))
    (a : Addr) (m c : Nat) (news : List Value) (hl : news.length = m * i.size) (hnews : ∀ j u, news[j]? = some u → w.cell? (a.add j) = some u) (h1 : ∀ u ∈ news, u.oneCell' = true)
    (hroom : sLen + m ≤ sCap) (hfit : sLen * i.size + news.length ≤ cur.size) :
    (Builtin.append_ #[t, t] ty #[.slice (some ⟨g, 0, none⟩) sLen sCap, .slice (some a) m c]).run P w =
      .ok (.slice (some ⟨g, 0, none⟩) (sLen + m) sCap) (w.setRow g (cur.toList.take (sLen * i.size) ++ news ++ cur.toList.drop (sLen * i.size + news.length)).toArray) := by
  have hf := run_firstCells_some (P := P) w i.size m a m c news hl hnews
  have hst := run_storeCells_at P g (sLen * i.size) e' news 0 cur w hg (by simpa using hfit) h1
  simp only [Nat.add_zero] at hst
  simp [Builtin.append_, run_underlying ht, sizeOf, typeInfo, hi, Builtin.lenOf, hroom, hf, Addr.add_lit, hst]

/-- Nothing to append. -/
theorem append_none (t ty e : TypeId) (i : TypeInfo) (ht : P.underlying t = some (.slice e)) (hi : P.info? e = some i)
    (A : Option Addr) (n cap : Nat) (hn : n ≤ cap) (A' : Option Addr) (c : Nat) :
    (Builtin.append_ #[t, t] ty #[.slice A n cap, .slice A' 0 c]).run P w = .ok (.slice A n cap) w := by
  cases A <;> cases A' <;> simp [Builtin.append_, run_underlying ht, sizeOf, typeInfo, hi, Builtin.lenOf, hn, Builtin.firstCells, loadCells, loadCellsFrom, storeCells]
end
end Go.Proofs.Ytcmaohhcbiienaa.X
