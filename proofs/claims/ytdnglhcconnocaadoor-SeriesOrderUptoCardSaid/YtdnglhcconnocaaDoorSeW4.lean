/- The calls Len and Labels on a table of series. Conditions: labels in memory that is not written. -/
import Derived.Test.YtdnglhcconnocaaDoorSeW3
namespace Go.Proofs.YtdnglhcconnocaaDoor
open Go.RowKit Go.Maps

/-- What the calls read of a table. -/
theorem TabS.read {n0 : Nat} {E : Eh} {w : World} {F : Nat → Prop} {tb : Nat} {most : Int} {ms : List Lab} (h : TabS n0 E w F tb most ms) :
    ∃ A c mb, Blk w tb 63 #[.int .i64 most, .slice A ms.length c, .map (some mb)] ∧ ∀ i x, ms[i]? = some x → ∃ g v, A = some ⟨g, 0, none⟩ ∧ w.cell? ⟨g, i, none⟩ = some v ∧ HdrS E x v := by
  obtain ⟨v, mb, D, ps, h1, h2, h3, h4, h5, h6, f1, f2, f3, f4⟩ := h
  obtain ⟨A, c, rfl⟩ := h2.slice
  have hpl : ps.length = ms.length := by rw [← h3, List.length_map]
  rw [hpl] at h1
  refine ⟨A, c, mb, h1, fun i x hi => ?_⟩
  rw [← h3, List.getElem?_map] at hi
  obtain ⟨p, hp, rfl⟩ := Option.map_eq_some_iff.1 hi
  have hlt := (List.getElem?_eq_some_iff.1 hp).1
  rcases h2.2 with ⟨_, h0⟩ | ⟨g, cap, cur, hv, hb, hg, hn, hc, hs, ht⟩
  · omega
  · injection hv with e1 _ _
    subst e1
    refine ⟨g, p.2, rfl, ?_, h4 p (List.mem_of_getElem? hp)⟩
    rw [cell_of_row _ _ _ _ _ _ hg]
    have hf := flat_get labC 1 (fun _ => rfl) ps i p 0 p.2 hp rfl
    rw [← ht, List.getElem?_take] at hf
    split at hf
    · simpa using hf
    · cases hf

set_option maxHeartbeats 400000 in
theorem len_calls (n0 : Nat) (E : Eh) (F : Nat → Prop) (tb : Nat) (most : Int) (ms : List Lab) (w : World) (hT : TabS n0 E w F tb most ms) :
    Calls Tryd.prog 12 #[.pointer (some ⟨tb, 0, none⟩)] w fun e w' => e = .returned (.int .i64 ms.length) ∧ w' = w := by
  obtain ⟨A, c, mb, hB, _⟩ := hT.read
  have c1 := hB.cell 1
  simp only [List.getElem?_toArray, List.getElem?_cons_zero, List.getElem?_cons_succ] at c1
  clear hT
  go_enter Tryd.func12, Tryd.ntmps12
  go_wp2_with fail
  go_ret
  exact ⟨rfl, rfl⟩

set_option maxHeartbeats 1000000 in
set_option maxRecDepth 100000 in
theorem labels_no (n0 : Nat) (E : Eh) (F : Nat → Prop) (tb : Nat) (most : Int) (ms : List Lab) (i : Int) (w : World) (hT : TabS n0 E w F tb most ms) (hi : i < 0 ∨ (ms.length : Int) < i) :
    Calls Tryd.prog 13 #[.pointer (some ⟨tb, 0, none⟩), .int .i64 i] w fun e w' => e = .returned (.tuple #[.slice none 0 0, .bool false]) ∧ Below w.heap.size w w' := by
  obtain ⟨A, c, mb, hB, _⟩ := hT.read
  have c1 := hB.cell 1
  simp only [List.getElem?_toArray, List.getElem?_cons_zero, List.getElem?_cons_succ] at c1
  clear hT
  by_cases h0 : i < 0
  · go_enter Tryd.func13, Tryd.ntmps13
    go_wp2_with fail
    go_ret2
    exact ⟨rfl, Below.refl _ _⟩
  · have h1 : (ms.length : Int) < i := by omega
    go_enter Tryd.func13, Tryd.ntmps13
    go_wp2_with fail
    go_ret2
    exact ⟨rfl, Below.refl _ _⟩

set_option maxHeartbeats 1000000 in
set_option maxRecDepth 100000 in
theorem labels_zero (n0 : Nat) (E : Eh) (F : Nat → Prop) (tb : Nat) (most : Int) (ms : List Lab) (w : World) (hT : TabS n0 E w F tb most ms) :
    Calls Tryd.prog 13 #[.pointer (some ⟨tb, 0, none⟩), .int .i64 0] w fun e w' => e = .returned (.tuple #[.slice none 0 0, .bool true]) ∧ Below w.heap.size w w' := by
  obtain ⟨A, c, mb, hB, _⟩ := hT.read
  have c1 := hB.cell 1
  simp only [List.getElem?_toArray, List.getElem?_cons_zero, List.getElem?_cons_succ] at c1
  have h1 : ¬ (ms.length : Int) < 0 := by omega
  clear hT
  go_enter Tryd.func13, Tryd.ntmps13
  go_wp2_with fail
  go_ret2
  exact ⟨rfl, Below.refl _ _⟩

set_option maxHeartbeats 1000000 in
set_option maxRecDepth 100000 in
theorem labels_some (n0 : Nat) (E : Eh) (F : Nat → Prop) (tb : Nat) (most : Int) (ms : List Lab) (k : Nat) (x : Lab) (w : World) (hE : Et E w) (hT : TabS n0 E w F tb most ms) (hx : ms[k]? = some x) (hxl : x.length ≤ 1000000) (hml : ms.length ≤ 1000) :
    Calls Tryd.prog 13 #[.pointer (some ⟨tb, 0, none⟩), .int .i64 (k + 1)] w fun e w' => ∃ v E', e = .returned (.tuple #[v, .bool true]) ∧ Ext E w E' w' ∧ HdrS E' x v := by
  have hlow := hT.low
  obtain ⟨A, c, mb, hB, hrow⟩ := hT.read
  obtain ⟨g, v, rfl, hc, A3, c3, rfl, hr3, hz3⟩ := hrow k x hx
  have hk := (List.getElem?_eq_some_iff.1 hx).1
  have c1 := hB.cell 1
  simp only [List.getElem?_toArray, List.getElem?_cons_zero, List.getElem?_cons_succ] at c1
  have h1 : ¬ (ms.length : Int) < (k : Int) + 1 := by omega
  have h2 : ¬ (k : Int) + 1 < 0 := by omega
  have h3 : ((k : Int) + 1 == 0) = false := by rw [beq_eq_false_iff_ne]; omega
  clear hT hrow
  go_enter Tryd.func13, Tryd.ntmps13
  go_wp2_with fail
  refine (clone_calls E x A3 x.length c3 _ hE rfl hr3 hxl).mono ?_; rintro e w1 ⟨v1, E1, rfl, x1, hh, _⟩
  go_wp2_with fail
  go_ret2
  exact ⟨v1, E1, rfl, x1, hh⟩
end Go.Proofs.YtdnglhcconnocaaDoor
