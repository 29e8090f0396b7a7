import Derived.Test.YtcmaohhcbiienaaXA
/-! XB: what a state says of the memory. -/
set_option linter.unusedVariables false
namespace Go.Proofs.Ytcmaohhcbiienaa.X
open Go.RowKit

/-- A value stands for what it tells, by cells that are fixed. -/
inductive RepP (I : Nat → Nat → Prop) (w : World) : Value → PV → Prop
  | sc {v : Value} (h : flatV v = true) : RepP I w v (.sc v)
  | sl {A : Option Addr} {cap z : Nat} {l : List (List PV)} (f : Nat → Nat → Value) (hcap : l.length ≤ cap) (hmax : cap ≤ maxLen)
      (hnil : A = none → cap = 0) (hs : ∀ a, A = some a → a.spot = none) (hz : ∀ (i : Nat) (r : List PV), l[i]? = some r → r.length = z)
      (hI : ∀ a, A = some a → ∀ (i : Nat) (r : List PV) (j : Nat) (x : PV), l[i]? = some r → r[j]? = some x → I a.block (a.off + (i * z + j)) ∧ w.cell? ⟨a.block, a.off + (i * z + j), none⟩ = some (f i j))
      (hR : ∀ (i : Nat) (r : List PV) (j : Nat) (x : PV), l[i]? = some r → r[j]? = some x → RepP I w (f i j) x) : RepP I w (.slice A l.length cap) (.sl z l)
  | ref {b off : Nat} {cs : List PV} (f : Nat → Value)
      (hI : ∀ (j : Nat) (x : PV), cs[j]? = some x → I b (off + j) ∧ w.cell? ⟨b, off + j, none⟩ = some (f j))
      (hR : ∀ (j : Nat) (x : PV), cs[j]? = some x → RepP I w (f j) x) : RepP I w (.pointer (some ⟨b, off, none⟩)) (.ref cs)
  | fn {f : FuncId} {caps : Array Value} {cs : List PV} (hl : caps.size = cs.length)
      (hR : ∀ (j : Nat) (x : PV) (v : Value), cs[j]? = some x → caps[j]? = some v → RepP I w v x) : RepP I w (.func (.func f) #[] caps) (.fn f cs)

theorem RepP.mono {I I' : Nat → Nat → Prop} {w w' : World} (hI : ∀ b i, I b i → I' b i) (hc : ∀ b i, I b i → w'.cell? ⟨b, i, none⟩ = w.cell? ⟨b, i, none⟩)
    {v : Value} {x : PV} (h : RepP I w v x) : RepP I' w' v x := by
  induction h with
  | sc h => exact .sc h
  | sl f h1 h2 h3 h4 h5 h6 _ ih =>
    refine .sl f h1 h2 h3 h4 h5 (fun a ha i r j x hr hx => ?_) ih
    obtain ⟨p, q⟩ := h6 a ha i r j x hr hx
    exact ⟨hI _ _ p, (hc _ _ p).trans q⟩
  | ref f h1 _ ih => exact .ref f (fun j x hx => ⟨hI _ _ (h1 j x hx).1, (hc _ _ (h1 j x hx).1).trans (h1 j x hx).2⟩) ih
  | fn hl _ ih => exact .fn hl ih

theorem RepP.flat {I : Nat → Nat → Prop} {w : World} {v : Value} {x : PV} (h : RepP I w v x) : flatV v = true := by
  cases h <;> first | assumption | rfl

/-- Blocks that are others'. -/
abbrev Blk := Nat → Prop
/-- Nothing was turned but blocks that aren't others'. -/
structure Keep (B : Blk) (w w' : World) : Prop where
  os : w'.os = w.os
  tape : w'.tape = w.tape
  output : w'.output = w.output
  size : w.heap.size ≤ w'.heap.size
  block : ∀ k, B k → w'.heap[k]? = w.heap[k]?
theorem Keep.refl (B : Blk) (w : World) : Keep B w w := ⟨rfl, rfl, rfl, Nat.le_refl _, fun _ _ => rfl⟩
theorem Keep.trans {B : Blk} {a b c : World} (h : Keep B a b) (k : Keep B b c) : Keep B a c :=
  ⟨k.os.trans h.os, k.tape.trans h.tape, k.output.trans h.output, Nat.le_trans h.size k.size, fun i hi => (k.block i hi).trans (h.block i hi)⟩
theorem Keep.mono {B B' : Blk} {w w' : World} (h : Keep B w w') (hB : ∀ b, B' b → B b) : Keep B' w w' := ⟨h.os, h.tape, h.output, h.size, fun k hk => h.block k (hB k hk)⟩
theorem Keep.drew {B : Blk} {a w : World} (h : Keep B a w) : Keep B a w.drew := ⟨h.os, h.tape, h.output, h.size, h.block⟩
theorem Keep.alloc {B : Blk} {a w : World} (h : Keep B a w) (hB : ∀ b, B b → b < w.heap.size) (o : Go.Obj) : Keep B a (w.alloc o) :=
  h.trans ⟨rfl, rfl, rfl, by simp, fun k hk => Below.heap_alloc _ _ _ (hB k hk)⟩
theorem Keep.setCell {B : Blk} {a w : World} (h : Keep B a w) {p : Addr} (hp : ¬ B p.block) (u : Value) : Keep B a (w.setCell p u) :=
  h.trans ⟨rfl, rfl, rfl, by simp [World.setCell], fun k hk => Below.heap_setCell _ _ _ _ (fun e => hp (e ▸ hk))⟩
/-- All that was there. -/
def old (w : World) : Blk := fun b => b < w.heap.size
theorem Keep.below {w w' : World} (h : Keep (old w) w w') : Below w.heap.size w w' := ⟨h.os, h.tape, h.output, h.size, h.block⟩
theorem Keep.of {w w' : World} (h : Below w.heap.size w w') : Keep (old w) w w' := ⟨h.os, h.tape, h.output, h.size, h.block⟩

/-- An array without rows has no block of its own. -/
def Obj.solid : Obj → Prop
  | .arr _ _ [] => False
  | _ => True
theorem Obj.solid_var (cs : List CV) : (Obj.var cs).solid := trivial
theorem Obj.solid_arr {fz : Bool} {z : Nat} {rows : List (List PV)} {r : Nat} {x : List PV} (h : rows[r]? = some x) : (Obj.arr fz z rows).solid := by
  cases rows with
  | nil => simp at h
  | cons => trivial
theorem Obj.solid_ne {fz : Bool} {z : Nat} {rows : List (List PV)} (h : rows ≠ []) : (Obj.arr fz z rows).solid := by
  cases rows with
  | nil => exact absurd rfl h
  | cons => trivial

structure Gh where
  I : Nat → Nat → Prop
  φ : Nat → Nat
  γ : Nat → Value × Nat
  β : Nat → Option Nat

def Obj.like : Obj → Obj → Prop
  | .var cs, .var cs' => cs'.length = cs.length
  | .arr _ z rows, .arr _ z' rows' => z' = z ∧ rows'.length = rows.length
  | .mp _ _, .mp _ _ => True
  | _, _ => False
theorem Obj.like.refl (o : Obj) : o.like o := by cases o <;> simp [Obj.like]
theorem Obj.like.solid {a b : Obj} (h : a.like b) : a.solid ↔ b.solid := by
  cases a <;> cases b <;> simp [Obj.like] at h
  case mp.mp => exact Iff.rfl
  · exact Iff.rfl
  · rename_i _ _ r1 _ _ r2
    cases r1 <;> cases r2 <;> simp_all [Obj.solid]
theorem Obj.like.trans {a b c : Obj} (h : a.like b) (k : b.like c) : a.like c := by
  cases a <;> cases b <;> cases c <;> simp_all [Obj.like]

/-- A value stands for a cell of a variable. -/
inductive RelC (g : Gh) (w : World) (ob : ObF) (rt : RtF) (nx : Nat) : Value → CV → Prop
  | p {v : Value} {x : PV} (h : RepP g.I w v x) : RelC g w ob rt nx v (.p none x)
  | p0 {A : Option Addr} {n z : Nat} {l : List (List PV)} (h : RepP g.I w (.slice A n n) (.sl z l)) : RelC g w ob rt nx (.slice A n n) (.p (some 0) (.sl z l))
  | pn {n z : Nat} {v : Value} {l : List (List PV)} (h0 : n ≠ 0) (h1 : n < nx) (h : RepP g.I w v (.sl z l)) (hg : rt n = true → g.γ n = (v, z)) :
      RelC g w ob rt nx v (.p (some n) (.sl z l))
  | pt {o off : Nat} {cs : List CV} (h : ob o = some (.var cs)) : RelC g w ob rt nx (.pointer (some ⟨g.φ o, off, none⟩)) (.pt o off)
  | mt {o : Nat} {es : List MapEntry} {k : Nat} (h : ob o = some (.mp es k)) : RelC g w ob rt nx (.map (some (g.φ o))) (.mt o)
  | pr {o r off : Nat} {fz : Bool} {z : Nat} {rows : List (List PV)} (h : ob o = some (.arr fz z rows)) :
      RelC g w ob rt nx (.pointer (some ⟨g.φ o, r * z + off, none⟩)) (.pr o r off)
  | vw {o lo n cap : Nat} {A : Option Addr} {fz : Bool} {z : Nat} {rows : List (List PV)} (h : ob o = some (.arr fz z rows)) (hl : lo + n ≤ rows.length)
      (hcap : n ≤ cap) (hmax : cap ≤ maxLen) (hnil : A = none → cap = 0) (hs : ∀ a, A = some a → a.spot = none) (hA : n ≠ 0 → A = some ⟨g.φ o, lo * z, none⟩) :
      RelC g w ob rt nx (.slice A n cap) (.vw o lo n)
  | cl {f : FuncId} {caps : Array Value} {cs : List CV} (hl : caps.size = cs.length)
      (hR : ∀ (j : Nat) (x : CV) (v : Value), cs[j]? = some x → caps[j]? = some v → RelC g w ob rt nx v x) : RelC g w ob rt nx (.func (.func f) #[] caps) (.cl f cs)

theorem RelC.flat {g : Gh} {w : World} {ob : ObF} {rt : RtF} {nx : Nat} {v : Value} {c : CV} (h : RelC g w ob rt nx v c) : flatV v = true := by
  cases h <;> first | exact RepP.flat (by assumption) | rfl

/-- Row by row. -/
def RelL (g : Gh) (w : World) (ob : ObF) (rt : RtF) (nx : Nat) (vs : Array Value) (cs : List CV) : Prop :=
  vs.size = cs.length ∧ ∀ (j : Nat) (x : CV) (v : Value), cs[j]? = some x → vs[j]? = some v → RelC g w ob rt nx v x

inductive RelA1 (g : Gh) (w : World) (ob : ObF) (rt : RtF) (nx : Nat) : Value → AT → Prop
  | no {v : Value} : RelA1 g w ob rt nx v .no
  | one {v : Value} {c : CV} (h : RelC g w ob rt nx v c) : RelA1 g w ob rt nx v (.one c)
  | agg {vs : Array Value} {cs : List CV} (h : RelL g w ob rt nx vs cs) : RelA1 g w ob rt nx (.agg vs) (.agg cs)
inductive RelA (g : Gh) (w : World) (ob : ObF) (rt : RtF) (nx : Nat) : Value → AT → Prop
  | of {v : Value} {x : AT} (h : RelA1 g w ob rt nx v x) : RelA g w ob rt nx v x
  | tup {vs : Array Value} {ts : List (Bool × List CV)} (hl : vs.size = ts.length) (h : ∀ (j : Nat) (t : Bool × List CV) (v : Value), ts[j]? = some t → vs[j]? = some v → RelA1 g w ob rt nx v (atC t)) :
      RelA g w ob rt nx (.tuple vs) (.tup ts)

/-- A right to append. -/
inductive OwnR (g : Gh) (w : World) (ob : ObF) (B : Blk) (n : Nat) : Prop
  | full (A : Option Addr) (k : Nat) (z : Nat) (h : g.γ n = (.slice A k k, z)) (hb : g.β n = none)
  | own (b len cap z : Nat) (e : TypeId) (cur : Array Value) (h : g.γ n = (.slice (some ⟨b, 0, none⟩) len cap, z)) (hb : g.β n = some b) (hB : ¬ B b)
      (hh : w.heap[b]? = some (.cells cur e (0, 0))) (h1 : len ≤ cap) (h2 : cap ≤ maxLen) (h3 : cur.size = cap * z) (hI : ∀ i, len * z ≤ i → ¬ g.I b i)
      (hφ : ∀ o x, ob o = some x → x.solid → g.φ o ≠ b)

/-- An own variable. -/
inductive RelObj (g : Gh) (w : World) (ob : ObF) (rt : RtF) (nx : Nat) (b : Nat) : Obj → Prop
  | var {cs : List CV} (e : TypeId) (vs : Array Value) (hh : w.heap[b]? = some (.cells vs e (0, 0))) (h : RelL g w ob rt nx vs cs) (hI : ∀ i, ¬ g.I b i) :
      RelObj g w ob rt nx b (.var cs)
  | arr {fz : Bool} {z : Nat} {rows : List (List PV)} (e : TypeId) (vs : Array Value) (hh : w.heap[b]? = some (.cells vs e (0, 0))) (hl : rows.length * z ≤ vs.size)
      (hm : rows.length ≤ maxLen) (hz : ∀ (i : Nat) (r : List PV), rows[i]? = some r → r.length = z)
      (h : ∀ (i : Nat) (r : List PV) (j : Nat) (x : PV) (v : Value), rows[i]? = some r → r[j]? = some x → vs[i * z + j]? = some v → RepP g.I w v x)
      (hI : fz = false → ∀ i, ¬ g.I b i) (hJ : fz = true → ∀ i, i < rows.length * z → g.I b i) : RelObj g w ob rt nx b (.arr fz z rows)
  | nil {fz : Bool} {z : Nat} : RelObj g w ob rt nx b (.arr fz z [])
  | mp {es : List MapEntry} {k : Nat} (hh : w.heap[b]? = some (.map es.toArray k)) (hI : ∀ i, ¬ g.I b i) : RelObj g w ob rt nx b (.mp es k)

/-- The memory of a state. -/
structure RelM (G : Nat → Option (List PV)) (g : Gh) (w : World) (ob : ObF) (rt : RtF) (nx : Nat) (B : Blk) : Prop where
  pos : 0 < nx
  glob : ∀ k cs, G k = some cs → RepP g.I w (.pointer (some ⟨k, 0, none⟩)) (.ref cs)
  size : ∀ b, B b → b < w.heap.size
  obj : ∀ o x, ob o = some x → RelObj g w ob rt nx (g.φ o) x ∧ (x.solid → ¬ B (g.φ o))
  inj : ∀ o o' x y, ob o = some x → ob o' = some y → x.solid → y.solid → g.φ o = g.φ o' → o = o'
  own : ∀ n, n ≠ 0 → n < nx → rt n = true → OwnR g w ob B n
  apart : ∀ n m b, n ≠ 0 → m ≠ 0 → n < nx → m < nx → rt n = true → rt m = true → g.β n = some b → g.β m = some b → n = m
  bnd : ∀ b i, g.I b i → b < w.heap.size

/-- From one memory to a later one: what stands for what stands on. -/
structure Ext (B : Blk) (base : Nat) (g : Gh) (w : World) (ob : ObF) (rt : RtF) (nx : Nat) (g' : Gh) (w' : World) (ob' : ObF) (rt' : RtF) (nx' : Nat) : Prop where
  below : Keep B w w'
  I : ∀ b i, g.I b i → g'.I b i
  old : ∀ b i, B b → g'.I b i → g.I b i
  cell : ∀ b i, g.I b i → w'.cell? ⟨b, i, none⟩ = w.cell? ⟨b, i, none⟩
  like : ∀ o x, o < base → ob o = some x → ∃ y, ob' o = some y ∧ x.like y
  φ : ∀ o, o < base → (ob o).isSome → g'.φ o = g.φ o
  rt : ∀ n, n < nx → rt' n = true → rt n = true ∧ g'.γ n = g.γ n
  nx : nx ≤ nx'

theorem Ext.refl (B : Blk) (base : Nat) (g : Gh) (w : World) (ob : ObF) (rt : RtF) (nx : Nat) : Ext B base g w ob rt nx g w ob rt nx :=
  ⟨Keep.refl B w, fun _ _ h => h, fun _ _ _ h => h, fun _ _ _ => rfl, fun o x _ h => ⟨x, h, .refl x⟩, fun _ _ _ => rfl, fun _ _ h => ⟨h, rfl⟩, Nat.le_refl _⟩

theorem Ext.trans {B : Blk} {base : Nat} {g g' g'' : Gh} {w w' w'' : World} {ob ob' ob'' : ObF} {rt rt' rt'' : RtF} {nx nx' nx'' : Nat}
    (h : Ext B base g w ob rt nx g' w' ob' rt' nx') (k : Ext B base g' w' ob' rt' nx' g'' w'' ob'' rt'' nx'') : Ext B base g w ob rt nx g'' w'' ob'' rt'' nx'' where
  below := h.below.trans k.below
  I b i hi := k.I _ _ (h.I _ _ hi)
  old b i hb hi := h.old _ _ hb (k.old _ _ hb hi)
  cell b i hi := (k.cell _ _ (h.I _ _ hi)).trans (h.cell _ _ hi)
  like o x ho hx := by
    obtain ⟨y, hy, l⟩ := h.like o x ho hx
    obtain ⟨z, hz, m⟩ := k.like o y ho hy
    exact ⟨z, hz, l.trans m⟩
  φ o ho hx := by
    obtain ⟨x, hx'⟩ := Option.isSome_iff_exists.1 hx
    obtain ⟨y, hy, _⟩ := h.like o x ho hx'
    exact (k.φ o ho (by simp [hy])).trans (h.φ o ho hx)
  rt n hn ht := by
    obtain ⟨a, b⟩ := k.rt n (Nat.lt_of_lt_of_le hn h.nx) ht
    obtain ⟨c, d⟩ := h.rt n hn a
    exact ⟨c, b.trans d⟩
  nx := Nat.le_trans h.nx k.nx

theorem Ext.mono {B : Blk} {base base' : Nat} {g g' : Gh} {w w' : World} {ob ob' : ObF} {rt rt' : RtF} {nx nx' : Nat}
    (h : Ext B base g w ob rt nx g' w' ob' rt' nx') (hb : base' ≤ base) : Ext B base' g w ob rt nx g' w' ob' rt' nx' :=
  ⟨h.below, h.I, h.old, h.cell, fun o x ho => h.like o x (Nat.lt_of_lt_of_le ho hb), fun o ho => h.φ o (Nat.lt_of_lt_of_le ho hb), h.rt, h.nx⟩

section
variable {B : Blk} {base : Nat} {g g' : Gh} {w w' : World} {ob ob' : ObF} {rt rt' : RtF} {nx nx' : Nat}

theorem RepP.ext (h : Ext B base g w ob rt nx g' w' ob' rt' nx') {v : Value} {x : PV} (k : RepP g.I w v x) : RepP g'.I w' v x := k.mono h.I h.cell

theorem RelC.ext (h : Ext B base g w ob rt nx g' w' ob' rt' nx') (hb : ∀ o, (ob o).isSome → o < base) {v : Value} {c : CV} (k : RelC g w ob rt nx v c) :
    RelC g' w' ob' rt' nx' v c := by
  induction k with
  | p k => exact .p (k.ext h)
  | p0 k => exact .p0 (k.ext h)
  | pn h0 h1 k hg =>
    refine .pn h0 (Nat.lt_of_lt_of_le h1 h.nx) (k.ext h) fun ht => ?_
    obtain ⟨a, b⟩ := h.rt _ h1 ht
    exact b.trans (hg a)
  | pt k =>
    have hs := Option.isSome_of_eq_some k
    obtain ⟨y, hy, l⟩ := h.like _ _ (hb _ hs) k
    rw [← h.φ _ (hb _ hs) hs]
    cases y with
    | var cs' => exact .pt hy
    | arr => exact l.elim
    | mp => exact l.elim
  | mt k =>
    have hs := Option.isSome_of_eq_some k
    obtain ⟨y, hy, l⟩ := h.like _ _ (hb _ hs) k
    rw [← h.φ _ (hb _ hs) hs]
    cases y with
    | var cs' => exact l.elim
    | arr => exact l.elim
    | mp => exact .mt hy
  | pr k =>
    have hs := Option.isSome_of_eq_some k
    obtain ⟨y, hy, l⟩ := h.like _ _ (hb _ hs) k
    rw [← h.φ _ (hb _ hs) hs]
    cases y with
    | var cs' => exact l.elim
    | mp => exact l.elim
    | arr fz z rows => obtain ⟨rfl, _⟩ := l; exact .pr hy
  | vw k h1 h2 h3 h4 h5 h6 =>
    have hs := Option.isSome_of_eq_some k
    obtain ⟨y, hy, l⟩ := h.like _ _ (hb _ hs) k
    cases y with
    | var cs' => exact l.elim
    | mp => exact l.elim
    | arr fz z rows =>
      obtain ⟨rfl, hl⟩ := l
      exact .vw hy (by omega) h2 h3 h4 h5 fun hn => by rw [h.φ _ (hb _ hs) hs]; exact h6 hn
  | cl hl _ ih => exact .cl hl ih

theorem RelL.ext (h : Ext B base g w ob rt nx g' w' ob' rt' nx') (hb : ∀ o, (ob o).isSome → o < base) {vs : Array Value} {cs : List CV} (k : RelL g w ob rt nx vs cs) :
    RelL g' w' ob' rt' nx' vs cs := ⟨k.1, fun j x v hx hv => (k.2 j x v hx hv).ext h hb⟩
theorem RelA1.ext (h : Ext B base g w ob rt nx g' w' ob' rt' nx') (hb : ∀ o, (ob o).isSome → o < base) {v : Value} {x : AT} (k : RelA1 g w ob rt nx v x) :
    RelA1 g' w' ob' rt' nx' v x := by
  cases k with
  | no => exact .no
  | one k => exact .one (k.ext h hb)
  | agg k => exact .agg (k.ext h hb)
theorem RelA.ext (h : Ext B base g w ob rt nx g' w' ob' rt' nx') (hb : ∀ o, (ob o).isSome → o < base) {v : Value} {x : AT} (k : RelA g w ob rt nx v x) :
    RelA g' w' ob' rt' nx' v x := by
  cases k with
  | of k => exact .of (k.ext h hb)
  | tup hl k => exact .tup hl fun j t v ht hv => (k j t v ht hv).ext h hb
end
end Go.Proofs.Ytcmaohhcbiienaa.X
