/- Arguments that are slices of steps, as lists, in the memory of the call's first world. No condition. -/
import Derived.Test.YtdnglhcconnocaaDoorScJ4
import Derived.Test.YtdnglhcconnocaaDoorGlobOf
import Derived.ProofKit
import Derived.OpenShut
import Derived.ChangeSlices
import Derived.Lib.SmallJoins
namespace Go.Proofs.YtdnglhcconnocaaDoor
open Go.ChangeShapes Go.WideShapes Go.ChangeAt Go.RowKit

theorem bytes_cells {H : Type} {enc : TypeId × Value → H} {W : World} {base fuel : Nat} {sp : Nat → Bool} {held : Bool} {cs : List Value} {x : DataW H × List MemPlace}
    (hf : DataW.trod enc Tryd.prog W base sp held fuel 48 cs = some x) :
    ∃ A n c xs, cs = [.slice A n c] ∧ Rd (World.all W) 1 byteC A n xs ∧ isBytes xs ∧ (A = none → c = 0) := by
  rcases open_ints Tryd.underlying48 Tryd.underlying5 (by kernel_rfl) hf with ⟨hcs, _⟩ | ⟨x, l, c, zs, hcs, _, hl, hm, hz, _, hcell, hwz⟩
  · exact ⟨none, 0, 0, [], hcs, Rd.nil, (fun x hx => by cases hx), fun _ => rfl⟩
  · have hzl : l ≤ zs.length := by rw [hz]; split <;> omega
    refine ⟨some x, l, c, zs.take l, hcs, ⟨by rw [List.length_take]; omega, by unfold maxLen at hm; omega, fun h0 => ?_⟩, fun y hy => ?_, fun h => by cases h⟩
    · obtain ⟨g, off, spot⟩ := x
      have g0 := hcell 0 (by omega)
      have hspot : spot = none := by simpa [Addr.add] using World.cell?_spot g0
      subst hspot
      refine ⟨g, off, rfl, fun i y j u hy hu => ?_⟩
      have hi : i < l := by
        have := (List.getElem?_eq_some_iff.1 hy).1
        rw [List.length_take] at this
        omega
      rw [List.getElem?_take_of_lt hi] at hy
      have hc := hcell i (by omega)
      rw [List.getD_eq_getElem?_getD, hy, Option.getD_some] at hc
      obtain ⟨rfl, rfl⟩ : j = 0 ∧ u = .int .u8 y := by
        match j, hu with
        | 0, hu => simp [byteC] at hu; exact ⟨rfl, hu.symm⟩
        | j + 1, hu => simp [byteC] at hu
      have hadd : (⟨g, off, none⟩ : Addr).add i = ⟨g, off + i, none⟩ := by unfold Addr.add; split <;> simp_all
      rw [hadd] at hc
      rw [Nat.mul_one, Nat.add_zero]
      exact all_cell hc
    · have := hwz y (List.mem_of_mem_take hy)
      simp [Lit.wf] at this
      have m0 : IntKind.u8.min = 0 := by decide
      have m1 : IntKind.u8.max = 255 := by decide
      exact ⟨by omega, by omega⟩
theorem list4 {α : Type} : ∀ {l : List α}, l.length = 4 → ∃ a b c d, l = [a, b, c, d]
  | [a, b, c, d], _ => ⟨a, b, c, d, rfl⟩
theorem step_cells {H : Type} {enc : TypeId × Value → H} {W : World} {base fuel : Nat} {sp : Nat → Bool} {held : Bool} {cs : List Value} {x : DataW H × List MemPlace}
    (hf : DataW.trod enc Tryd.prog W base sp held fuel 53 cs = some x) :
    ∃ p : Stp × Value, cs = pC p ∧ HdrZ (World.all W) p.1.b p.2 := by
  obtain ⟨y0, y1, y2, y3, n, _, hlen, h0, h1, h2, h3⟩ := Go.Joins.trod_struct4 Tryd.underlying53 hf
  have hc4 : Tryd.prog.cellsOf 53 = 4 := by kernel_rfl
  have hc1 : Tryd.prog.cellsOf 3 = 1 := by kernel_rfl
  have hc2 : Tryd.prog.cellsOf 48 = 1 := by kernel_rfl
  rw [hc4] at hlen
  obtain ⟨c0, c1, c2, c3, rfl⟩ := list4 hlen
  simp only [hc1, hc2, List.drop_succ_cons, List.drop_zero, List.take_succ_cons, List.take_zero] at h0 h1 h2 h3
  obtain ⟨k, e0, _, _⟩ := DataW.trod_int Tryd.underlying3 h0
  obtain ⟨so, e1, _, _⟩ := DataW.trod_int Tryd.underlying3 h1
  obtain ⟨sh, e2, _, _⟩ := DataW.trod_int Tryd.underlying3 h2
  obtain ⟨A, m, c, xs, e3, hr, hb, hA⟩ := bytes_cells h3
  simp only [List.cons.injEq, and_true] at e0 e1 e2 e3
  subst e0 e1 e2 e3
  have hl := hr.1
  subst hl
  exact ⟨(⟨k, so, sh, xs⟩, .slice A xs.length c), rfl, A, c, rfl, hr, hb, hA⟩
theorem steps_arg {H : Type} {enc : TypeId × Value → H} {W : World} {base : Nat} {sp : Nat → Bool} {held : Bool} {v : Value} {x : DataW H × List MemPlace} (hv : ∃ a len cap, v = .slice a len cap)
    (h : ∃ fuel, DataW.trod enc Tryd.prog W base sp held fuel 52 v.cells.toList = some x) :
    ∃ A n c l, v = .slice A n c ∧ StepsZ (World.all W) A n l ∧ (A = none → c = 0) ∧ n ≤ 9223372036854775807 := by
  obtain ⟨a, len, cap, rfl⟩ := hv
  obtain ⟨fuel, hf⟩ := h
  have hc4 : Tryd.prog.cellsOf 53 = 4 := by kernel_rfl
  rcases DataW.trod_slice Tryd.underlying52 hf with ⟨hcs, _⟩ | ⟨x, l, c, elems, rest, nn, _, hcs, _, hb, hl, hm, hlen, hel, _, _⟩
  · simp [Value.cells] at hcs
    obtain ⟨rfl, rfl, rfl⟩ := hcs
    exact ⟨none, 0, 0, [], rfl, ⟨[], rfl, Rd.nil, fun p hp => by cases hp⟩, (fun _ => rfl), by decide⟩
  · simp [Value.cells] at hcs
    obtain ⟨rfl, rfl, rfl⟩ := hcs
    rw [hc4] at hel
    have each : ∀ i, ∃ p : Stp × Value, i < len → HdrZ (World.all W) p.1.b p.2 ∧ ∀ j u, (pC p)[j]? = some u → W.cell? ((x.add (i * 4)).add j) = some u := by
      intro i
      by_cases hi : i < len
      · have h1 := hel i hi
        rw [List.getElem?_eq_getElem (by omega), Option.bind_eq_some_iff] at h1
        obtain ⟨cs, hcs, ht⟩ := h1
        obtain ⟨p, rfl, hp⟩ := step_cells ht
        exact ⟨p, fun _ => ⟨hp, fun j u hj => by
          have h2 := (World.cells?_some hcs).2.2 j (by have := (List.getElem?_eq_some_iff.1 hj).1; exact this)
          rw [← hj]
          exact h2⟩⟩
      · exact ⟨(⟨0, 0, 0, []⟩, .slice none 0 0), fun h => absurd h hi⟩
    have each' := Classical.axiomOfChoice each
    obtain ⟨f, hf'⟩ := each'
    refine ⟨some x, len, cap, ((List.range len).map f).map (·.1), rfl, ⟨(List.range len).map f, rfl, ⟨by simp, by unfold maxLen at hm; omega, fun h0 => ?_⟩, fun p hp => ?_⟩, (fun h => by cases h), by unfold maxLen at hm; omega⟩
    · obtain ⟨g, off, spot⟩ := x
      have g0 := (hf' 0 h0).2 0 _ rfl
      have hspot : spot = none := by simpa [Addr.add] using World.cell?_spot g0
      subst hspot
      refine ⟨g, off, rfl, fun i y j u hy hu => ?_⟩
      rw [List.getElem?_map] at hy
      obtain ⟨i', hi', rfl⟩ := Option.map_eq_some_iff.1 hy
      obtain ⟨hlt, rfl⟩ : i < len ∧ i' = i := by
        have := List.getElem?_eq_some_iff.1 hi'
        obtain ⟨h1, h2⟩ := this
        simp at h1 h2
        exact ⟨h1, h2.symm⟩
      have h2 := (hf' i' hlt).2 j u hu
      have ha1 : (⟨g, off, none⟩ : Addr).add (i' * 4) = ⟨g, off + i' * 4, none⟩ := by unfold Addr.add; split <;> simp_all
      have ha2 : (⟨g, off + i' * 4, none⟩ : Addr).add j = ⟨g, off + i' * 4 + j, none⟩ := by unfold Addr.add; split <;> simp_all
      rw [ha1, ha2, Nat.add_assoc] at h2
      exact all_cell h2
    · obtain ⟨i, hi, rfl⟩ := List.mem_map.1 hp
      exact (hf' i (List.mem_range.1 hi)).1
end Go.Proofs.YtdnglhcconnocaaDoor
