/- append of one list behind another, onto a row of the call's own. Conditions: memory that reads as said; sizes. -/
import Derived.Test.YtdnglhcconnocaaDoorBase
import Derived.Laws.AppendOwnNone
import Derived.Deep.AppendLies
namespace Go.Proofs.YtdnglhcconnocaaDoor
open Go.RowKit

/-- A slice that reads as a list, in one world. -/
def Src {α : Type} (W : World) (_k : Nat) (cs : α → List Value) (A : Option Addr) (n c : Nat) (ys : List α) : Prop :=
  ys.length = n ∧ (A = none → c = 0 ∧ n = 0) ∧ ∀ ad, A = some ad → ∀ j u, (ys.flatMap cs)[j]? = some u → W.cell? (ad.add j) = some u
theorem flat_len {α : Type} (cs : α → List Value) (k : Nat) (hk : ∀ y, (cs y).length = k) : ∀ ys : List α, (ys.flatMap cs).length = ys.length * k
  | [] => by simp
  | y :: ys => by simp only [List.flatMap_cons, List.length_append, List.length_cons, hk, flat_len cs k hk ys, Nat.succ_mul]; omega
theorem Src.of_rd {α : Type} {E : Eh} {W : World} {k : Nat} {cs : α → List Value} {A : Option Addr} {n c : Nat} {ys : List α} (hE : Et E W) (hr : Rd E k cs A n ys) (hk : ∀ y, (cs y).length = k) (hk0 : 0 < k) (hA : A = none → c = 0) : Src W k cs A n c ys := by
  refine ⟨hr.1, fun h => ⟨hA h, ?_⟩, fun ad ha j u hj => ?_⟩
  · rcases Nat.eq_zero_or_pos n with h0 | h0
    · exact h0
    · obtain ⟨g, off, ha⟩ := hr.nonempty h0
      rw [h] at ha
      cases ha
  · have hyl := hr.1
    have hn : 0 < n := by
      rcases Nat.eq_zero_or_pos n with h0 | h0
      · have hy := List.eq_nil_of_length_eq_zero (hyl.trans h0)
        subst hy
        simp at hj
      · exact h0
    obtain ⟨g, off, ha', hc⟩ := hr.2.2 hn
    rw [ha] at ha'
    injection ha' with ha'
    subst ha'
    have hadd : (⟨g, off, none⟩ : Addr).add j = ⟨g, off + j, none⟩ := by unfold Addr.add; split <;> simp_all
    rw [hadd]
    have hjl : j < ys.length * k := by
      rw [← flat_len cs k hk]
      exact (List.getElem?_eq_some_iff.1 hj).1
    have hi' : j / k < ys.length := Nat.div_lt_of_lt_mul (by rw [Nat.mul_comm]; exact hjl)
    have hm : j % k < k := Nat.mod_lt _ hk0
    have h3 := flat_get cs k hk ys (j / k) ys[j / k] (j % k) ((cs ys[j / k])[j % k]'(by rw [hk]; exact hm)) (List.getElem?_eq_getElem hi') (List.getElem?_eq_getElem (by rw [hk]; exact hm))
    have hd : j / k * k + j % k = j := by rw [Nat.mul_comm]; exact Nat.div_add_mod j k
    rw [hd, hj] at h3
    injection h3 with h3
    have h4 := hc (j / k) ys[j / k] (j % k) u (List.getElem?_eq_getElem hi') (by rw [h3]; exact List.getElem?_eq_getElem (by rw [hk]; exact hm))
    rw [hd] at h4
    exact hE.cell h4
theorem Src.of_block {α : Type} {W : World} {k : Nat} {cs : α → List Value} {B : Nat} {c : Nat} {y : α} {cy : Array Value} {t : TypeId} {fr : Nat × Nat} (hB : W.heap[B]? = some (.cells cy t fr)) (hcy : cy.toList = cs y) : Src W k cs (some ⟨B, 0, none⟩) 1 c [y] :=
  ⟨rfl, (fun h => by cases h), fun ad ha j u hj => by
    injection ha with ha
    subst ha
    simp only [List.flatMap_cons, List.flatMap_nil, List.append_nil] at hj
    rw [← hcy] at hj
    exact World.news_of_block hB j u hj⟩

section
variable {P : Program} {ops : Array Oper} {rest : List Oper} {o : Oper} {a : Act} {K : Act → World → Prop} {Q : Exit → Act → World → Prop} {F : Prop}
theorem run_app {α : Type} {W : World} (base : Nat) (ty t e : TypeId) (z : Value) (k bytes : Nat) (cs : α → List Value)
    (ht : P.underlying t = some (.slice e)) (hinfo : (P.info? e).map (fun i => (i.zero, i.size, i.bytes)) = some (some z, k, bytes)) (hz : z.cells.size = k) (hk0 : 0 < k) (hb0 : 0 < bytes)
    (v : Value) (l : List α) (A : Option Addr) (n c : Nat) (ys : List α) (hr : Src W k cs A n c ys) (hk : ∀ y, (cs y).length = k) (h1 : ∀ y ∈ ys, ∀ u ∈ cs y, u.oneCell' = true)
    (HO : Own W base e k cs v l) (hbase : base ≤ W.heap.size) (hl : (l.length + n) * bytes ≤ 140737488355328) :
    ∃ v1 w1, (Builtin.append_ #[t, t] ty #[v, .slice A n c]).run P W = .ok v1 w1 ∧ Own w1 base e k cs v1 (l ++ ys) ∧ W.grownBy w1 v.ownBlock ∧ (v1.ownBlock = v.ownBlock ∨ v1.ownBlock = some W.heap.size) := by
  obtain ⟨i0, hi, hzz⟩ := Option.map_eq_some_iff.1 hinfo
  simp only [Prod.mk.injEq] at hzz
  obtain ⟨hz0, hz1, hz2⟩ := hzz
  have hlen : l.length + n ≤ 140737488355328 := Nat.le_trans (Nat.le_mul_of_pos_right _ hb0) hl
  have hyl := hr.1
  cases A with
  | none =>
    obtain ⟨hc, hn0⟩ := hr.2.1 rfl
    subst hn0 hc
    have hy := List.eq_nil_of_length_eq_zero hyl
    subst hy
    exact ⟨v, W, run_append_owned_none (P := P) (w := W) base t ty e i0 k ht hi v l.length (l.flatMap cs) HO, by rw [List.append_nil]; exact HO, World.grownBy.refl W _, .inl rfl⟩
  | some ad =>
    obtain ⟨v', w', hrun, hown, hg, _, hat⟩ := run_append_own_at (P := P) W base t ty e i0 z k bytes ht hi hz0 hz1 hz2 hz hk0 v l.length (l.flatMap cs) HO ad n c (ys.flatMap cs) (by rw [flat_len cs k hk, hyl]) (hr.2.2 ad rfl)
      (fun u hu => by obtain ⟨y, hy, hu'⟩ := List.mem_flatMap.1 hu; exact h1 y hy u hu') (by simp only [maxLen]; omega) hl hbase
    exact ⟨v', w', hrun, by unfold Own; rw [List.length_append, hyl, List.flatMap_append]; exact hown, hg, hat⟩
/-- append(v, x...): behind 'at_builtin'. -/
theorem app_list {α : Type} {W : World} (base : Nat) (hgd : o.guard = none) (s x : Operand) (t e : TypeId) (z : Value) (k bytes : Nat) (cs : α → List Value)
    (ho : o.op = .call { callee := .builtin .append, args := #[s, x], argTypes := #[t, t] })
    (ht : P.underlying t = some (.slice e)) (hinfo : (P.info? e).map (fun i => (i.zero, i.size, i.bytes)) = some (some z, k, bytes)) (hz : z.cells.size = k) (hk0 : 0 < k) (hb0 : 0 < bytes)
    (v : Value) (l : List α) (A : Option Addr) (n c : Nat) (ys : List α) (hs : a.eval s = v) (hx : a.eval x = .slice A n c) (hr : Src W k cs A n c ys) (hk : ∀ y, (cs y).length = k) (h1 : ∀ y ∈ ys, ∀ u ∈ cs y, u.oneCell' = true)
    (HO : Own W base e k cs v l) (hbase : base ≤ W.heap.size) (hl : (l.length + n) * bytes ≤ 140737488355328)
    (h : ∀ v1 w1, Own w1 base e k cs v1 (l ++ ys) → W.grownBy w1 v.ownBlock → (v1.ownBlock = v.ownBlock ∨ v1.ownBlock = some W.heap.size) → wpList P ops Q rest (a.put o.dst v1) w1) :
    wpList P ops Q (o :: rest) a W := by
  refine wpList_plain hgd fun K hK => ?_
  obtain ⟨v', w', hr, h2, h3, h5⟩ := run_app (P := P) base o.type t e z k bytes cs ht hinfo hz hk0 hb0 v l A n c ys hr hk h1 HO hbase hl
  unfold Oper.wp execOp
  simp only [ho, resolve, invoke, builtin, Sem.run_bind, Sem.run_pure, Result.andThen_ok, List.map_toArray, List.map_cons, List.map_nil, hs, hx, hr]
  exact hK _ _ (h v' w' h2 h3 h5)
/-- append(v, x...): behind 'at_builtin', where the operation's guard lets it run. -/
theorem app_listG {α : Type} {W : World} (base : Nat) (hw : Region.wanted o (yielded ops a.tmps) = true) (s x : Operand) (t e : TypeId) (z : Value) (k bytes : Nat) (cs : α → List Value)
    (ho : o.op = .call { callee := .builtin .append, args := #[s, x], argTypes := #[t, t] })
    (ht : P.underlying t = some (.slice e)) (hinfo : (P.info? e).map (fun i => (i.zero, i.size, i.bytes)) = some (some z, k, bytes)) (hz : z.cells.size = k) (hk0 : 0 < k) (hb0 : 0 < bytes)
    (v : Value) (l : List α) (A : Option Addr) (n c : Nat) (ys : List α) (hs : a.eval s = v) (hx : a.eval x = .slice A n c) (hr : Src W k cs A n c ys) (hk : ∀ y, (cs y).length = k) (h1 : ∀ y ∈ ys, ∀ u ∈ cs y, u.oneCell' = true)
    (HO : Own W base e k cs v l) (hbase : base ≤ W.heap.size) (hl : (l.length + n) * bytes ≤ 140737488355328)
    (h : ∀ v1 w1, Own w1 base e k cs v1 (l ++ ys) → W.grownBy w1 v.ownBlock → (v1.ownBlock = v.ownBlock ∨ v1.ownBlock = some W.heap.size) → wpList P ops Q rest (a.put o.dst v1) w1) :
    wpList P ops Q (o :: rest) a W := by
  refine wpList_step fun K hK => ?_
  rw [if_pos hw]
  obtain ⟨v', w', hr, h2, h3, h5⟩ := run_app (P := P) base o.type t e z k bytes cs ht hinfo hz hk0 hb0 v l A n c ys hr hk h1 HO hbase hl
  unfold Oper.wp execOp
  simp only [ho, resolve, invoke, builtin, Sem.run_bind, Sem.run_pure, Result.andThen_ok, List.map_toArray, List.map_cons, List.map_nil, hs, hx, hr]
  exact hK _ _ (h v' w' h2 h3 h5)
/-- append(v, x...): at a step of a region that draws its order. -/
theorem step_list {α : Type} {W : World} (base : Nat) (hgd : o.guard = none) (s x : Operand) (t e : TypeId) (z : Value) (k bytes : Nat) (cs : α → List Value)
    (ho : o.op = .call { callee := .builtin .append, args := #[s, x], argTypes := #[t, t] })
    (ht : P.underlying t = some (.slice e)) (hinfo : (P.info? e).map (fun i => (i.zero, i.size, i.bytes)) = some (some z, k, bytes)) (hz : z.cells.size = k) (hk0 : 0 < k) (hb0 : 0 < bytes)
    (v : Value) (l : List α) (A : Option Addr) (n c : Nat) (ys : List α) (hs : a.eval s = v) (hx : a.eval x = .slice A n c) (hr : Src W k cs A n c ys) (hk : ∀ y, (cs y).length = k) (h1 : ∀ y ∈ ys, ∀ u ∈ cs y, u.oneCell' = true)
    (HO : Own W base e k cs v l) (hbase : base ≤ W.heap.size) (hl : (l.length + n) * bytes ≤ 140737488355328)
    (h : ∀ v1 w1, Own w1 base e k cs v1 (l ++ ys) → W.grownBy w1 v.ownBlock → (v1.ownBlock = v.ownBlock ∨ v1.ownBlock = some W.heap.size) → K (a.put o.dst v1) w1) :
    if Region.wanted o (yielded ops a.tmps) = true then Oper.wp P o a W K Q else F := by
  have hw : Region.wanted o (yielded ops a.tmps) = true := by simp [Region.wanted, hgd]
  rw [if_pos hw]
  obtain ⟨v', w', hr, h2, h3, h5⟩ := run_app (P := P) base o.type t e z k bytes cs ht hinfo hz hk0 hb0 v l A n c ys hr hk h1 HO hbase hl
  unfold Oper.wp execOp
  simp only [ho, resolve, invoke, builtin, Sem.run_bind, Sem.run_pure, Result.andThen_ok, List.map_toArray, List.map_cons, List.map_nil, hs, hx, hr]
  exact h v' w' h2 h3 h5
end
end Go.Proofs.YtdnglhcconnocaaDoor
