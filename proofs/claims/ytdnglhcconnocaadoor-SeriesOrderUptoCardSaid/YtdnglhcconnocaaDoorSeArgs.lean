/- Arguments that are lists of labels, as lists, in the memory of the call's first world, and their bulk. No condition. -/
import Derived.Test.YtdnglhcconnocaaDoorSeW1
import Derived.Test.YtdnglhcconnocaaDoorGlobOf
import Derived.Test.YtdnglhcconnocaaDoorRows
import Derived.ProofKit
import Derived.OpenShut
import Derived.SliceStrings
import Derived.Lib.SmallJoins
namespace Go.Proofs.YtdnglhcconnocaaDoor
open Go.ChangeShapes Go.WideShapes Go.ChangeAt Go.RowKit

def sumB (x : Lab) : Nat := (x.map fun s => s.size + 1).sum
theorem sumB_cons (s : ByteArray) (x : Lab) : sumB (s :: x) = s.size + 1 + sumB x := by simp [sumB]
theorem sumB_mem {x : Lab} {s : ByteArray} (h : s ∈ x) : s.size + 1 ≤ sumB x := by
  induction x with
  | nil => cases h
  | cons a x ih =>
    rw [sumB_cons]
    rcases List.mem_cons.1 h with rfl | h
    · omega
    · have := ih h; omega
theorem sumB_len (x : Lab) : x.length ≤ sumB x := by
  induction x with
  | nil => simp
  | cons a x ih => rw [sumB_cons, List.length_cons]; omega
theorem bulk_strs {H : Type} (x : Lab) : Rows.uptoBulkAll (strs x : List (DataW H)) = sumB x := by
  induction x with
  | nil => rfl
  | cons a x ih =>
    rw [sumB_cons]
    show Rows.uptoBulkAll ((.lit (.string a.data.toList)) :: strs x) = _
    simp only [Rows.uptoBulkAll, Rows.uptoBulk, ih]
    rfl
theorem bulk_part {H : Type} {d : DataW H} {l : List (DataW H)} (h : d ∈ l) : Rows.uptoBulk d ≤ Rows.uptoBulkAll l := by
  induction l with
  | nil => cases h
  | cons x r ih =>
    simp only [Rows.uptoBulkAll]
    rcases List.mem_cons.1 h with e | e
    · subst e; omega
    · have := ih e; omega

theorem strs_cells {H : Type} {enc : TypeId × Value → H} {W : World} {base fuel : Nat} {sp : Nat → Bool} {held : Bool} {cs : List Value} {x : DataW H × List MemPlace}
    (hf : DataW.trod enc Tryd.prog W base sp held fuel 28 cs = some x) :
    ∃ y v, cs = [v] ∧ HdrS (World.all W) y v ∧ sumB y ≤ Rows.uptoBulk x.1 := by
  rcases open_strings Tryd.underlying28 Tryd.underlying9 (by kernel_rfl) hf with ⟨hcs, hx⟩ | ⟨a, l, c, ss, hcs, _, hl, hm, hz, hx, hcell, hwz⟩
  · exact ⟨[], _, hcs, ⟨none, 0, rfl, Rd.nil, fun _ => rfl⟩, by simp [sumB]⟩
  · have hzl : l ≤ ss.length := by rw [hz]; split <;> omega
    have hlt : (ss.take l).length = l := by rw [List.length_take]; omega
    refine ⟨ss.take l, _, hcs, ⟨some a, c, by rw [hlt], ⟨rfl, by rw [hlt]; unfold maxLen at hm; omega, fun h0 => ?_⟩, fun h => by cases h⟩, ?_⟩
    · rw [hlt] at h0
      obtain ⟨g, off, spot⟩ := a
      have g0 := hcell 0 (by omega)
      have hspot : spot = none := by simpa [Addr.add] using World.cell?_spot g0
      subst hspot
      refine ⟨g, off, rfl, fun i y j u hy hu => ?_⟩
      have hi : i < l := by
        have := (List.getElem?_eq_some_iff.1 hy).1
        rw [List.length_take] at this
        omega
      rw [List.getElem?_take_of_lt hi] at hy
      have hc := hcell i (by omega)
      rw [List.getD_eq_getElem?_getD, hy, Option.getD_some] at hc
      obtain ⟨rfl, rfl⟩ : j = 0 ∧ u = .string y := by
        match j, hu with
        | 0, hu => simp [strC] at hu; exact ⟨rfl, hu.symm⟩
        | j + 1, hu => simp [strC] at hu
      have hadd : (⟨g, off, none⟩ : Addr).add i = ⟨g, off + i, none⟩ := by unfold Addr.add; split <;> simp_all
      rw [hadd] at hc
      rw [Nat.mul_one, Nat.add_zero]
      exact all_cell hc
    · rw [hx]
      simp only [Rows.uptoBulk, bulk_strs]
      omega
theorem lab_arg {H : Type} {enc : TypeId × Value → H} {W : World} {base : Nat} {sp : Nat → Bool} {held : Bool} {v : Value} {x : DataW H × List MemPlace} (hv : ∃ a len cap, v = .slice a len cap)
    (h : ∃ fuel, DataW.trod enc Tryd.prog W base sp held fuel 28 v.cells.toList = some x) :
    ∃ y, HdrS (World.all W) y v ∧ sumB y ≤ Rows.uptoBulk x.1 := by
  obtain ⟨a, len, cap, rfl⟩ := hv
  obtain ⟨fuel, hf⟩ := h
  obtain ⟨y, v, hcs, hd, hb⟩ := strs_cells hf
  simp [Value.cells] at hcs
  subst hcs
  exact ⟨y, hd, hb⟩
theorem labs_arg {H : Type} {enc : TypeId × Value → H} {W : World} {base : Nat} {sp : Nat → Bool} {held : Bool} {v : Value} {x : DataW H × List MemPlace} (hv : ∃ a len cap, v = .slice a len cap)
    (h : ∃ fuel, DataW.trod enc Tryd.prog W base sp held fuel 22 v.cells.toList = some x) :
    ∃ A n c l, v = .slice A n c ∧ Labs (World.all W) A n l ∧ ∀ y ∈ l, sumB y ≤ Rows.uptoBulk x.1 := by
  obtain ⟨a, len, cap, rfl⟩ := hv
  obtain ⟨fuel, hf⟩ := h
  have hc1 : Tryd.prog.cellsOf 28 = 1 := by kernel_rfl
  rcases DataW.trod_slice Tryd.underlying22 hf with ⟨hcs, _⟩ | ⟨a, l, c, elems, rest, nn, _, hcs, hx, hb, hl, hm, hlen, hel, _, _⟩
  · simp [Value.cells] at hcs
    obtain ⟨rfl, rfl, rfl⟩ := hcs
    exact ⟨none, 0, 0, [], rfl, ⟨[], rfl, Rd.nil, fun p hp => by cases hp⟩, fun y hy => by cases hy⟩
  · simp [Value.cells] at hcs
    obtain ⟨rfl, rfl, rfl⟩ := hcs
    rw [hc1] at hel
    have each : ∀ i, ∃ p : Lab × Value, i < len → HdrS (World.all W) p.1 p.2 ∧ (∀ j u, (labC p)[j]? = some u → W.cell? ((a.add (i * 1)).add j) = some u) ∧ sumB p.1 ≤ Rows.uptoBulk x.1 := by
      intro i
      by_cases hi : i < len
      · have h1 := hel i hi
        rw [List.getElem?_eq_getElem (by omega), Option.bind_eq_some_iff] at h1
        obtain ⟨cs, hcs, ht⟩ := h1
        obtain ⟨y, u, rfl, hp, hbk⟩ := strs_cells ht
        refine ⟨(y, u), fun _ => ⟨hp, fun j u' hj => ?_, ?_⟩⟩
        · have h2 := (World.cells?_some hcs).2.2 j (by have := (List.getElem?_eq_some_iff.1 hj).1; exact this)
          rw [← hj]
          exact h2
        · refine Nat.le_trans hbk ?_
          rw [hx]
          simp only [Rows.uptoBulk]
          have hmem : (elems[i]'(by omega)).1 ∈ elems.map (·.1) := List.mem_map_of_mem (List.getElem_mem _)
          have := bulk_part hmem
          omega
      · exact ⟨([], .slice none 0 0), fun h => absurd h hi⟩
    have each' := Classical.axiomOfChoice each
    obtain ⟨f, hf'⟩ := each'
    refine ⟨some a, len, cap, ((List.range len).map f).map (·.1), rfl, ⟨(List.range len).map f, rfl, ⟨by simp, by unfold maxLen at hm; omega, fun h0 => ?_⟩, fun p hp => ?_⟩, fun y hy => ?_⟩
    · obtain ⟨g, off, spot⟩ := a
      have g0 := (hf' 0 h0).2.1 0 _ rfl
      have hspot : spot = none := by simpa [Addr.add] using World.cell?_spot g0
      subst hspot
      refine ⟨g, off, rfl, fun i y j u hy hu => ?_⟩
      rw [List.getElem?_map] at hy
      obtain ⟨i', hi', rfl⟩ := Option.map_eq_some_iff.1 hy
      obtain ⟨hlt, rfl⟩ : i < len ∧ i' = i := by
        have := List.getElem?_eq_some_iff.1 hi'
        obtain ⟨h1, h2⟩ := this
        simp at h1 h2
        exact ⟨h1, h2.symm⟩
      have h2 := (hf' i' hlt).2.1 j u hu
      have ha1 : (⟨g, off, none⟩ : Addr).add (i' * 1) = ⟨g, off + i' * 1, none⟩ := by unfold Addr.add; split <;> simp_all
      have ha2 : (⟨g, off + i' * 1, none⟩ : Addr).add j = ⟨g, off + i' * 1 + j, none⟩ := by unfold Addr.add; split <;> simp_all
      rw [ha1, ha2, Nat.add_assoc] at h2
      exact all_cell h2
    · obtain ⟨i, hi, rfl⟩ := List.mem_map.1 hp
      exact (hf' i (List.mem_range.1 hi)).1
    · obtain ⟨p, hp, rfl⟩ := List.mem_map.1 hy
      obtain ⟨i, hi, rfl⟩ := List.mem_map.1 hp
      exact (hf' i (List.mem_range.1 hi)).2.2
end Go.Proofs.YtdnglhcconnocaaDoor
