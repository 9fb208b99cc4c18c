/- What every proof of this seat stands on: memory that is never written again ('Eh'), what reads from it, rows of a call's own that become such memory. No condition. -/
import Derived.WalkKit
import Derived.WalkSpells
import Derived.WalkLawsBesides
import Derived.Deep.Draws
import Derived.Deep.QuietTactic
import Derived.BigQuiet
import Derived.Maps.AppendAt
import Derived.Lib.Hide
import Derived.Outline
import Derived.Test.YtdnglhcconnocaaDoorProg
namespace Go.Proofs.YtdnglhcconnocaaDoor
open Go.RowKit

/-- Blocks that nobody writes any more. -/
abbrev Eh := Nat → Option Obj
/-- They stand in a world. -/
def Et (E : Eh) (w : World) : Prop := ∀ b o, E b = some o → w.heap[b]? = some o
def Eh.le (E E' : Eh) : Prop := ∀ b o, E b = some o → E' b = some o
theorem Eh.le.refl (E : Eh) : E.le E := fun _ _ h => h
theorem Eh.le.trans {A B C : Eh} (h : A.le B) (k : B.le C) : A.le C := fun b o x => k b o (h b o x)
theorem Et.sub {E E' : Eh} {w : World} (h : Et E' w) (k : E.le E') : Et E w := fun b o x => h b o (k b o x)
theorem Et.lt {E : Eh} {w : World} (h : Et E w) {b : Nat} {o : Obj} (k : E b = some o) : b < w.heap.size := (Array.getElem?_eq_some_iff.1 (h b o k)).1
theorem Et.out {E : Eh} {w : World} (h : Et E w) {b : Nat} (k : w.heap.size ≤ b) : E b = none := by
  cases hb : E b with
  | none => rfl
  | some o => have := h.lt hb; omega
theorem Et.below {E : Eh} {w w' : World} (h : Et E w) (k : Below w.heap.size w w') : Et E w' := fun b o x => (k.block b (h.lt x)).trans (h b o x)
theorem Et.belowB {E : Eh} {w w' : World} {B : Nat} (h : Et E w) (k : Below B w w') (hB : ∀ b o, E b = some o → b < B) : Et E w' := fun b o x => (k.block b (hB b o x)).trans (h b o x)
theorem Et.alloc {E : Eh} {w : World} (o : Obj) (h : Et E w) : Et E (w.alloc o) := fun b x e => (Below.heap_alloc w o b (h.lt e)).trans (h b x e)
theorem Et.drew {E : Eh} {w : World} (h : Et E w) : Et E w.drew := h
theorem Et.drewN {E : Eh} {w : World} (n : Nat) (h : Et E w) : Et E (w.drewN n) := h
theorem Et.setCell {E : Eh} {w : World} (p : Addr) (v : Value) (k : E p.block = none) (h : Et E w) : Et E (w.setCell p v) := fun b o e =>
  (Below.heap_setCell w p v b (fun x => by subst x; rw [k] at e; cases e)).trans (h b o e)
theorem Et.grown {E : Eh} {w w' : World} {row : Option Nat} (h : Et E w) (k : w.grownBy w' row) (hr : ∀ g, row = some g → E g = none) : Et E w' := fun b o e =>
  (k.block b (h.lt e) (fun x => by have := hr b x.symm; rw [this] at e; cases e)).trans (h b o e)

/-- A cell of such memory. -/
def Eh.cell (E : Eh) (b o : Nat) : Option Value := match E b with | some (.cells c _ _) => c[o]? | _ => none
theorem Eh.le.cell {E E' : Eh} (h : E.le E') {b o : Nat} {v : Value} (k : E.cell b o = some v) : E'.cell b o = some v := by
  unfold Eh.cell at k ⊢
  cases hb : E b with
  | none => rw [hb] at k; cases k
  | some x => rw [h b x hb]; rw [hb] at k; exact k
theorem Et.cell {E : Eh} {w : World} (h : Et E w) {b o : Nat} {v : Value} (k : E.cell b o = some v) : w.cell? ⟨b, o, none⟩ = some v := by
  unfold Eh.cell at k
  cases hb : E b with
  | none => rw [hb] at k; cases k
  | some x =>
    rw [hb] at k
    simp only [World.cell?, h b x hb]
    cases x <;> simp_all

/-- A later world with more such memory: what was there is as it was; what is new in it lies in new blocks. -/
structure Ext (E : Eh) (w : World) (E' : Eh) (w' : World) : Prop where
  le : E.le E'
  et : Et E' w'
  new : ∀ b o, E' b = some o → E b = some o ∨ (w.heap.size ≤ b ∧ ∃ c t, o = .cells c t (0, 0))
  below : Below w.heap.size w w'
theorem Ext.refl {E : Eh} {w : World} (h : Et E w) : Ext E w E w := ⟨Eh.le.refl E, h, fun _ _ x => .inl x, Below.refl _ _⟩
theorem Ext.of_below {E : Eh} {w w' : World} (h : Et E w) (k : Below w.heap.size w w') : Ext E w E w' := ⟨Eh.le.refl E, h.below k, fun _ _ x => .inl x, k⟩
theorem Ext.trans {E E1 E2 : Eh} {w w1 w2 : World} (h : Ext E w E1 w1) (k : Ext E1 w1 E2 w2) : Ext E w E2 w2 where
  le := h.le.trans k.le
  et := k.et
  new := fun b o x => by
    rcases k.new b o x with y | ⟨y, z⟩
    · exact h.new b o y
    · exact .inr ⟨Nat.le_trans h.below.size y, z⟩
  below := h.below.trans (k.below.mono h.below.size)
theorem Ext.alloc {E E1 : Eh} {w w1 : World} (h : Ext E w E1 w1) (o : Obj) : Ext E w E1 (w1.alloc o) := ⟨h.le, h.et.alloc o, h.new, h.below.alloc h.below.size o⟩
theorem Ext.drew {E E1 : Eh} {w w1 : World} (h : Ext E w E1 w1) : Ext E w E1 w1.drew := ⟨h.le, h.et, h.new, h.below.drew⟩
theorem Ext.drewN {E E1 : Eh} {w w1 : World} (h : Ext E w E1 w1) (n : Nat) : Ext E w E1 (w1.drewN n) := ⟨h.le, h.et, h.new, ⟨h.below.os, h.below.tape, h.below.output, h.below.size, h.below.block⟩⟩
theorem Ext.setCell {E E1 : Eh} {w w1 : World} (h : Ext E w E1 w1) {p : Addr} (v : Value) (hp : w.heap.size ≤ p.block) (k : E1 p.block = none) : Ext E w E1 (w1.setCell p v) :=
  ⟨h.le, h.et.setCell p v k, h.new, h.below.setCell hp v⟩
theorem Ext.grown {E E1 : Eh} {w w1 w2 : World} {row : Option Nat} (h : Ext E w E1 w1) (k : w1.grownBy w2 row) (hr : ∀ g, row = some g → w.heap.size ≤ g ∧ E1 g = none) : Ext E w E1 w2 :=
  ⟨h.le, h.et.grown k (fun g x => (hr g x).2), h.new, h.below.grown k h.below.size (fun g x => (hr g x).1)⟩
theorem Ext.step {E E1 : Eh} {w w1 w2 : World} (h : Ext E w E1 w1) (k : Below w1.heap.size w1 w2) : Ext E w E1 w2 := h.trans (Ext.of_below h.et k)

/-- One more block becomes such memory. -/
def Eh.put (E : Eh) (b : Nat) (o : Obj) : Eh := fun k => if k = b then some o else E k
theorem Ext.freeze {E E1 : Eh} {w w1 : World} (h : Ext E w E1 w1) {b : Nat} {c : Array Value} {t : TypeId} (hb : w1.heap[b]? = some (.cells c t (0, 0))) (hn : E1 b = none) (hw : w.heap.size ≤ b) : Ext E w (E1.put b (.cells c t)) w1 where
  le := fun k o x => by
    have hk : E1 k = some o := h.le k o x
    have : k ≠ b := fun e => by subst e; rw [hn] at hk; cases hk
    simp [Eh.put, this, hk]
  et := fun k o x => by
    unfold Eh.put at x
    split at x
    · rename_i e; subst e; rw [hb]; exact x
    · exact h.et k o x
  new := fun k o x => by
    unfold Eh.put at x
    split at x
    · rename_i e; subst e; cases x; exact .inr ⟨hw, _, _, rfl⟩
    · exact h.new k o x
  below := h.below
theorem Eh.le_put {E : Eh} {b : Nat} (o : Obj) (hn : E b = none) : E.le (E.put b o) := fun k x e => by
  have : k ≠ b := fun y => by subst y; rw [hn] at e; cases e
  simp [Eh.put, this, e]

/-- A slice that reads as a list; each element has k cells. -/
def Rd {α : Type} (E : Eh) (k : Nat) (cs : α → List Value) (A : Option Addr) (n : Nat) (l : List α) : Prop :=
  l.length = n ∧ n ≤ 9223372036854775807 ∧ (0 < n → ∃ g off, A = some ⟨g, off, none⟩ ∧ ∀ i x j v, l[i]? = some x → (cs x)[j]? = some v → E.cell g (off + (i * k + j)) = some v)
section
variable {α : Type} {E E' : Eh} {k : Nat} {cs : α → List Value} {A : Option Addr} {n : Nat} {l : List α}
theorem Rd.up (h : Rd E k cs A n l) (e : E.le E') : Rd E' k cs A n l :=
  ⟨h.1, h.2.1, fun hn => by obtain ⟨g, off, a, c⟩ := h.2.2 hn; exact ⟨g, off, a, fun i x j v hi hj => e.cell (c i x j v hi hj)⟩⟩
theorem Rd.nil : Rd E k cs none 0 ([] : List α) := ⟨rfl, by omega, fun h => by omega⟩
theorem Rd.zero (A : Option Addr) : Rd E k cs A 0 ([] : List α) := ⟨rfl, by omega, fun h => by omega⟩
/-- The cells of one element, in whatever world. -/
theorem Rd.at_ (h : Rd E k cs A n l) {i : Nat} (hi : i < n) : ∃ g off x, A = some ⟨g, off, none⟩ ∧ l[i]? = some x ∧ ∀ j v, (cs x)[j]? = some v → ∀ W, Et E W → W.cell? ⟨g, off + (i * k + j), none⟩ = some v := by
  obtain ⟨g, off, a, c⟩ := h.2.2 (by omega)
  have hl : i < l.length := by rw [h.1]; exact hi
  exact ⟨g, off, l[i], a, List.getElem?_eq_getElem hl, fun j v hj W hW => hW.cell (c i _ j v (List.getElem?_eq_getElem hl) hj)⟩
theorem Rd.nonempty (h : Rd E k cs A n l) (hn : 0 < n) : ∃ g off, A = some ⟨g, off, none⟩ := by
  obtain ⟨g, off, a, _⟩ := h.2.2 hn
  exact ⟨g, off, a⟩
end
theorem flat_get {α : Type} (cs : α → List Value) (k : Nat) (hk : ∀ x, (cs x).length = k) : ∀ (l : List α) (i : Nat) (x : α) (j : Nat) (v : Value), l[i]? = some x → (cs x)[j]? = some v → (l.flatMap cs)[i * k + j]? = some v
  | [], i, x, j, v, hi, _ => by simp at hi
  | a :: l, 0, x, j, v, hi, hj => by
    simp only [List.getElem?_cons_zero, Option.some.injEq] at hi
    subst hi
    have hlt : j < (cs a).length := (List.getElem?_eq_some_iff.1 hj).1
    simp only [List.flatMap_cons, Nat.zero_mul, Nat.zero_add]
    rw [List.getElem?_append_left hlt]
    exact hj
  | a :: l, i + 1, x, j, v, hi, hj => by
    simp only [List.getElem?_cons_succ] at hi
    have := flat_get cs k hk l i x j v hi hj
    simp only [List.flatMap_cons]
    rw [List.getElem?_append_right (by rw [hk]; have : (i + 1) * k = i * k + k := Nat.succ_mul i k; omega), hk]
    have e : (i + 1) * k + j - k = i * k + j := by have : (i + 1) * k = i * k + k := Nat.succ_mul i k; omega
    rw [e]
    exact this

/-- A row of the call's own, as a list. -/
def Own {α : Type} (w : World) (base : Nat) (t : TypeId) (k : Nat) (cs : α → List Value) (v : Value) (l : List α) : Prop := w.ownsRow base t k v l.length (l.flatMap cs)
theorem Own.nil {α : Type} (w : World) (base : Nat) (t : TypeId) (k : Nat) (cs : α → List Value) : Own w base t k cs (.slice none 0 0) ([] : List α) := World.ownsRow_nil w base t k
theorem Own.slice {α : Type} {w : World} {base : Nat} {t : TypeId} {k : Nat} {cs : α → List Value} {v : Value} {l : List α} (h : Own w base t k cs v l) : ∃ A c, v = .slice A l.length c := by
  rcases h.2 with ⟨rfl, hn⟩ | ⟨g, cap, cur, rfl, _⟩
  · exact ⟨none, 0, by rw [hn]⟩
  · exact ⟨_, _, rfl⟩
/-- A block of this call's own, of one element type. -/
def NewA (n0 : Nat) (E : Eh) (t : TypeId) (A : Option Addr) : Prop := ∀ a, A = some a → n0 ≤ a.block ∧ ∃ c, E a.block = some (.cells c t)
theorem NewA.mono {n0 n1 : Nat} {E : Eh} {t : TypeId} {A : Option Addr} (h : NewA n0 E t A) (k : n1 ≤ n0) : NewA n1 E t A := fun a ha => ⟨Nat.le_trans k (h a ha).1, (h a ha).2⟩
theorem NewA.up {n0 : Nat} {E E' : Eh} {t : TypeId} {A : Option Addr} (h : NewA n0 E t A) (k : E.le E') : NewA n0 E' t A := fun a ha => ⟨(h a ha).1, by obtain ⟨c, hc⟩ := (h a ha).2; exact ⟨c, k _ _ hc⟩⟩
theorem NewA.none {n0 : Nat} {E : Eh} {t : TypeId} : NewA n0 E t none := fun a ha => by cases ha
/-- It becomes memory that is not written any more. -/
theorem Own.freeze {α : Type} {E E1 : Eh} {w w1 : World} {base : Nat} {t : TypeId} {k : Nat} {cs : α → List Value} {v : Value} {l : List α} (hk : ∀ x, (cs x).length = k) (h : Own w1 base t k cs v l) (x : Ext E w E1 w1) (hb : w.heap.size ≤ base) (ho : ∀ g, v.ownBlock = some g → E1 g = none) :
    ∃ E2 A c, Ext E w E2 w1 ∧ E1.le E2 ∧ v = .slice A l.length c ∧ Rd E2 k cs A l.length l ∧ (∀ b, E1 b = none → v.ownBlock ≠ some b → E2 b = none) ∧ NewA base E2 t A := by
  rcases h.2 with ⟨rfl, hn⟩ | ⟨g, cap, cur, rfl, hbg, hg, hnc, hcm, hcs, htake⟩
  · have hl : l = [] := List.eq_nil_of_length_eq_zero hn
    subst hl
    exact ⟨E1, none, 0, x, Eh.le.refl _, rfl, Rd.nil, (fun _ h _ => h), fun a ha => by cases ha⟩
  · have hn : E1 g = none := ho g rfl
    refine ⟨E1.put g (.cells cur t), _, cap, x.freeze hg hn (by omega), Eh.le_put _ hn, rfl, ⟨rfl, by simp only [maxLen] at hcm; omega, fun _ => ⟨g, 0, rfl, ?_⟩⟩, (fun b h1 h2 => ?_), fun a ha => by cases ha; exact ⟨hbg, cur, by simp [Eh.put]⟩⟩
    · intro i y j u hi hj
      have hf := flat_get cs k hk l i y j u hi hj
      rw [← htake, List.getElem?_take] at hf
      split at hf
      · simp only [Eh.cell, Eh.put, if_true, Nat.zero_add]
        simpa using hf
      · cases hf
    · have : b ≠ g := fun e => h2 (by simp [Value.ownBlock, e])
      simp [Eh.put, this, h1]
theorem Own.step {α : Type} {w w' : World} {base : Nat} {t : TypeId} {k : Nat} {cs : α → List Value} {v : Value} {l : List α} (h : Own w base t k cs v l) (hb : Below w.heap.size w w') : Own w' base t k cs v l :=
  World.ownsRow.kept (row := none) h ⟨hb.os, hb.tape, hb.output, hb.size, fun k hk _ => hb.block k hk⟩ (by cases v.ownBlock <;> simp)
theorem Own.alloc {α : Type} {w : World} {base : Nat} {t : TypeId} {k : Nat} {cs : α → List Value} {v : Value} {l : List α} (h : Own w base t k cs v l) (o : Obj) : Own (w.alloc o) base t k cs v l := World.ownsRow.alloc h o
theorem Own.drewN {α : Type} {w : World} {base : Nat} {t : TypeId} {k : Nat} {cs : α → List Value} {v : Value} {l : List α} (h : Own w base t k cs v l) (n : Nat) : Own (w.drewN n) base t k cs v l := h
theorem Own.lt {α : Type} {w : World} {base : Nat} {t : TypeId} {k : Nat} {cs : α → List Value} {v : Value} {l : List α} (h : Own w base t k cs v l) : ∀ g, v.ownBlock = some g → base ≤ g ∧ g < w.heap.size := World.ownsRow.lt h
/-- A block of another element type is another block. -/
theorem Own.ne {α : Type} {w : World} {base : Nat} {t t' : TypeId} {k : Nat} {cs : α → List Value} {v : Value} {l : List α} (h : Own w base t k cs v l) {g : Nat} {c : Array Value} {fr : Nat × Nat} (hg : w.heap[g]? = some (.cells c t' fr)) (hne : t ≠ t') : v.ownBlock ≠ some g := by
  rcases h.2 with ⟨rfl, _⟩ | ⟨g', cap, cur, rfl, _, hh, _⟩
  · simp [Value.ownBlock]
  · intro he
    have : g' = g := by simpa [Value.ownBlock] using he
    subst this
    rw [hh] at hg
    injection hg with hg
    injection hg with _ ht
    exact hne ht

section
variable {P : Program} {ops : Array Oper} {rest : List Oper} {o : Oper} {a : Act} {Q : Exit → Act → World → Prop}
/-- append(v, x): behind 'at_builtin'; the element lies in the newest block. -/
theorem app_own {α : Type} {W : World} (base : Nat) (hgd : o.guard = none) (s x : Operand) (t e : TypeId) (z : Value) (k bytes : Nat) (cs : α → List Value)
    (ho : o.op = .call { callee := .builtin .append, args := #[s, x], argTypes := #[t, t] })
    (ht : P.underlying t = some (.slice e)) (hinfo : (P.info? e).map (fun i => (i.zero, i.size, i.bytes)) = some (some z, k, bytes)) (hz : z.cells.size = k) (hk0 : 0 < k) (hb0 : 0 < bytes)
    (v : Value) (l : List α) (y : α) (cy : Array Value) (hs : a.eval s = v) (hx : a.eval x = .slice (some ⟨W.heap.size, 0, none⟩) 1 1) (hcy : cy.toList = cs y) (hky : (cs y).length = k) (h1 : ∀ u ∈ cs y, u.oneCell' = true)
    (HO : Own W base e k cs v l) (hbase : base ≤ W.heap.size) (hl : (l.length + 1) * bytes ≤ 140737488355328)
    (h : ∀ v1 w1, Own w1 base e k cs v1 (l ++ [y]) → W.grownBy w1 v.ownBlock → (v1.ownBlock = v.ownBlock ∨ v1.ownBlock = some (W.heap.size + 1)) → wpList P ops Q rest (a.put o.dst v1) w1) :
    wpList P ops Q (o :: rest) a (W.alloc (.cells cy e)) := by
  obtain ⟨i0, hi, hzz⟩ := Option.map_eq_some_iff.1 hinfo
  simp only [Prod.mk.injEq] at hzz
  obtain ⟨hz0, hz1, hz2⟩ := hzz
  have hlen : l.length + 1 ≤ 140737488355328 := Nat.le_trans (Nat.le_mul_of_pos_right _ hb0) hl
  refine wpList_append_own_at (W.alloc (.cells cy e)) hgd s x t ho base e i0 z k bytes ht hi hz0 hz1 hz2 hz hk0 v l.length (l.flatMap cs) hs (World.ownsRow.alloc HO _) ⟨W.heap.size, 0, none⟩ 1 1 (cs y) hx (by rw [hky, Nat.one_mul])
    ?_ h1 (by simp only [maxLen]; omega) hl (by simp; omega) ?_
  · intro j u hj
    have ha : (⟨W.heap.size, 0, none⟩ : Addr).add j = ⟨W.heap.size, j, none⟩ := by unfold Addr.add; split <;> simp_all
    rw [ha, cell_of_row _ _ j cy e (0, 0) (heap_alloc_new W _)]
    rw [← hcy] at hj
    simpa using hj
  · intro v1 w1 hown hg _ hat
    refine h v1 w1 (by unfold Own; simpa using hown) (World.grownBy.trans (World.grownBy_alloc W _ _) hg) ?_
    rcases hat with hat | hat
    · exact .inl hat
    · exact .inr (by simpa using hat)
end

/-- A boxed variable of the call's own. -/
def Blk (w : World) (g : Nat) (t : TypeId) (cs : Array Value) : Prop := w.heap[g]? = some (.cells cs t (0, 0))
section
variable {w w' : World} {g : Nat} {t : TypeId} {cs : Array Value}
theorem Blk.lt (h : Blk w g t cs) : g < w.heap.size := (Array.getElem?_eq_some_iff.1 h).1
theorem Blk.cell (h : Blk w g t cs) (i : Nat) : w.cell? ⟨g, i, none⟩ = cs[i]? := cell_of_row w g i cs t (0, 0) h
theorem Blk.frozen (h : Blk w g t cs) (i : Nat) : w.frozen? ⟨g, i, none⟩ = false := by
  unfold Blk at h
  simp [World.frozen?, h]
theorem Blk.new (w : World) (t : TypeId) (cs : Array Value) : Blk (w.alloc (.cells cs t)) w.heap.size t cs := heap_alloc_new w _
theorem Blk.alloc (h : Blk w g t cs) (o : Obj) : Blk (w.alloc o) g t cs := (Below.heap_alloc w o g h.lt).trans h
theorem Blk.drewN (h : Blk w g t cs) (n : Nat) : Blk (w.drewN n) g t cs := h
theorem Blk.set_ (h : Blk w g t cs) (i : Nat) (u : Value) : Blk (w.setCell ⟨g, i, none⟩ u) g t (cs.setIfInBounds i u) := by
  unfold Blk at h ⊢
  simp [World.setCell, Array.getElem?_modify, h]
theorem Blk.far (h : Blk w g t cs) {p : Addr} (hp : g ≠ p.block) (u : Value) : Blk (w.setCell p u) g t cs := (Below.heap_setCell w p u g hp).trans h
theorem Blk.below {B : Nat} (h : Blk w g t cs) (hb : Below B w w') (hg : g < B) : Blk w' g t cs := (hb.block g hg).trans h
theorem Blk.step (h : Blk w g t cs) (hb : Below w.heap.size w w') : Blk w' g t cs := h.below hb h.lt
theorem Blk.grown {row : Option Nat} (h : Blk w g t cs) (hb : w.grownBy w' row) (hg : row ≠ some g) : Blk w' g t cs := (hb.block g h.lt (fun e => hg e.symm)).trans h
theorem Blk.ne_ {g' : Nat} {t' : TypeId} {cs' : Array Value} (h : Blk w g t cs) (h' : Blk w g' t' cs') (hne : t ≠ t') : g ≠ g' := by
  rintro rfl
  unfold Blk at h h'
  rw [h] at h'
  injection h' with h'
  injection h' with _ ht
  exact hne ht
end

theorem Ext.free {E E1 : Eh} {w w1 : World} (h : Ext E w E1 w1) {b : Nat} (hn : E b = none) (hb : b < w.heap.size) : E1 b = none := by
  cases h1 : E1 b with
  | none => rfl
  | some o =>
    rcases h.new b o h1 with x | ⟨x, _⟩
    · rw [hn] at x; cases x
    · omega
theorem results_cell_tmp {P : Program} {fn : Func} {p q : Tmp} {ty : TypeId} (h : fn.results = #[.cell p ty, .tmp q]) (tmps : Array Value) (w : World) (g : Nat) (t : TypeId) (cs : Array Value) (fr : Nat × Nat) (d : TypeDesc)
    (hp : tmps.getD p undef = .pointer (some ⟨g, 0, none⟩)) (hg : w.heap[g]? = some (.cells cs t fr))
    (hu : P.underlying ty = some d) (hd : (match d with | .struct _ | .array _ _ => true | _ => false) = true) (hi : (P.info? ty).map (·.size) = some cs.size) :
    (results fn tmps).run P w = .ok (.tuple #[.agg cs, tmps.getD q undef]) w := by
  have hp' : tmps[p]?.getD undef = .pointer (some ⟨g, 0, none⟩) := by simpa using hp
  simp [results, h, hp', asAddr, run_loadVar_row w g t ty cs fr d hg hu hd hi]

theorem ret_int {k : IntKind} {a b : Int} (h : a = b) : Ending.returned (.int k a) = .returned (.int k b) := by rw [h]
end Go.Proofs.YtdnglhcconnocaaDoor
