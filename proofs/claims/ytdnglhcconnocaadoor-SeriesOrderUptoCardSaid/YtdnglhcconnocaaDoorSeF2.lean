/- A table's numbers, as plain functions, and the map that bears them. No condition. -/
import Derived.Maps.Views
import Derived.Maps.OwnSet
import Derived.Maps.OwnOps
import Derived.Test.YtdnglhcconnocaaDoorSeF
namespace Go.Proofs.YtdnglhcconnocaaDoor
open Go.Maps

def idxF : List Lab → Lab → Option Nat
  | [], _ => none
  | a :: r, x => if a = x then some 0 else (idxF r x).map (· + 1)
/-- The table behind one more list of labels, and its number. -/
def ofF (ms : List Lab) (x : Lab) (most : Int) : List Lab × Int :=
  match idxF ms x with
  | some i => (ms, (i : Int) + 1)
  | none => if most ≤ (ms.length : Int) then (ms, 0) else (ms ++ [x], (ms.length : Int) + 1)
theorem idx_some : ∀ {ms : List Lab} {x : Lab} {i : Nat}, idxF ms x = some i → ms[i]? = some x
  | [], _, _, h => by cases h
  | a :: r, x, i, h => by
    unfold idxF at h
    split at h
    · rename_i e
      injection h with h
      subst h e
      rfl
    · obtain ⟨j, hj, rfl⟩ := Option.map_eq_some_iff.1 h
      simpa using idx_some hj
theorem idx_none : ∀ {ms : List Lab} {x : Lab}, idxF ms x = none ↔ x ∉ ms
  | [], _ => by simp [idxF]
  | a :: r, x => by
    have ih := idx_none (ms := r) (x := x)
    unfold idxF
    by_cases e : a = x
    · simp [e]
    · simp only [if_neg e, Option.map_eq_none_iff, ih, List.mem_cons, not_or]
      exact ⟨fun h => ⟨fun e' => e e'.symm, h⟩, fun h => h.2⟩
theorem idx_snoc_old : ∀ {ms : List Lab} {x y : Lab} {i : Nat}, idxF ms x = some i → idxF (ms ++ [y]) x = some i
  | [], _, _, _, h => by cases h
  | a :: r, x, y, i, h => by
    unfold idxF at h
    have hc : (a :: r) ++ [y] = a :: (r ++ [y]) := rfl
    rw [hc]
    unfold idxF
    by_cases e : a = x
    · rw [if_pos e] at h ⊢
      exact h
    · rw [if_neg e] at h ⊢
      obtain ⟨j, hj, rfl⟩ := Option.map_eq_some_iff.1 h
      rw [idx_snoc_old hj]
      rfl
theorem idx_snoc_new : ∀ {ms : List Lab} {x : Lab}, x ∉ ms → idxF (ms ++ [x]) x = some ms.length
  | [], x, _ => by simp [idxF]
  | a :: r, x, h => by
    have h1 : a ≠ x := fun e => h (by simp [e])
    have ih := idx_snoc_new (ms := r) (x := x) (fun e => h (by simp [e]))
    have hc : (a :: r) ++ [x] = a :: (r ++ [x]) := rfl
    rw [hc]
    unfold idxF
    rw [if_neg h1, ih]
    rfl
theorem idx_snoc_other : ∀ {ms : List Lab} {x y : Lab}, idxF ms x = none → y ≠ x → idxF (ms ++ [y]) x = none := by
  intro ms x y h hy
  rw [idx_none] at h ⊢
  simp only [List.mem_append, List.mem_singleton, not_or]
  exact ⟨h, fun e => hy e.symm⟩
/-- The map bears the table's numbers. -/
def MapS (D : DataW Unit) (ms : List Lab) : Prop := IsMap D ∧ ∀ x : Lab, match idxF ms x with
  | some i => has D (.string (keyF x)) = true ∧ ∀ z, D.atKey (.string (keyF x)) z = .lit (.int .i64 ((i : Int) + 1))
  | none => has D (.string (keyF x)) = false
theorem MapS.nil : MapS (.map []) [] := ⟨isMap_empty, fun _ => rfl⟩
theorem MapS.put {D : DataW Unit} {ms : List Lab} (h : MapS D ms) {y : Lab} (hy : y ∉ ms) : MapS (D.put (.string (keyF y)) (.lit (.int .i64 ((ms.length : Int) + 1)))) (ms ++ [y]) := by
  refine ⟨h.1.put _ _, fun x => ?_⟩
  by_cases e : y = x
  · subst e
    rw [idx_snoc_new hy]
    have hk : WideAt.IsKeyLit (Lit.string (keyF y)) := trivial
    exact ⟨has_put_same h.1 hk _, fun z => atKey_put_same h.1 hk _ _⟩
  · have hne : (Lit.string (keyF x)) ≠ .string (keyF y) := fun e' => by
      injection e' with e'
      exact e (key_inj e'.symm)
    have hx := h.2 x
    cases hi : idxF ms x with
    | none =>
      rw [hi] at hx
      rw [idx_snoc_other hi e]
      simp only [] at hx ⊢
      rw [has_put_other hne]
      exact hx
    | some i =>
      rw [hi] at hx
      rw [idx_snoc_old hi]
      simp only [] at hx ⊢
      rw [has_put_other hne]
      exact ⟨hx.1, fun z => by rw [atKey_put_other hne]; exact hx.2 z⟩
theorem ofF_nodup {ms : List Lab} {x : Lab} {most : Int} (h : ms.Nodup) : (ofF ms x most).1.Nodup := by
  unfold ofF
  cases hi : idxF ms x with
  | some i => exact h
  | none =>
    simp only []
    split
    · exact h
    · rw [List.nodup_append]
      refine ⟨h, by simp, fun a ha b hb e => ?_⟩
      simp only [List.mem_singleton] at hb
      subst hb e
      exact idx_none.1 hi ha
end Go.Proofs.YtdnglhcconnocaaDoor
