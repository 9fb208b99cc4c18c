/- The call Order on a table of series. Conditions: the table in memory. -/
import Derived.Test.YtdnglhcconnocaaDoorSeW6
import Derived.Test.YtdnglhcconnocaaDoorShelfSort
namespace Go.Proofs.YtdnglhcconnocaaDoor
open Go.RowKit Go.Maps Go.Sort

set_option maxHeartbeats 1000000 in
set_option maxRecDepth 100000 in
/-- The closure that compares two numbers of the table. -/
theorem order1_calls (n0 : Nat) (E : Eh) (F : Nat → Prop) (tb cb : Nat) (most : Int) (ms : List Lab) (i k : Nat) (x y : Lab) (w : World) (hE : Et E w) (hT : TabS n0 E w F tb most ms) (hc : w.cell? ⟨cb, 0, none⟩ = some (.pointer (some ⟨tb, 0, none⟩)))
    (hx : ms[i]? = some x) (hy : ms[k]? = some y) (hml : ms.length ≤ 1000) :
    Calls Tryd.prog 30 #[.int .i64 (i + 1), .int .i64 (k + 1), .pointer (some ⟨cb, 0, none⟩)] w fun e w' => e = .returned (.int .i64 (labCmp x y)) ∧ ∃ q, w' = w.drewN q := by
  obtain ⟨A, c, mb, hB, hrow⟩ := hT.read
  obtain ⟨g, v, rfl, hcx, A1, c1, rfl, hr1, hz1⟩ := hrow i x hx
  obtain ⟨g', v', hA', hcy, A2, c2, rfl, hr2, hz2⟩ := hrow k y hy
  injection hA' with hA'
  injection hA' with e1 _
  subst e1
  have hi := (List.getElem?_eq_some_iff.1 hx).1
  have hk := (List.getElem?_eq_some_iff.1 hy).1
  have d1 := hB.cell 1
  simp only [List.getElem?_toArray, List.getElem?_cons_zero, List.getElem?_cons_succ] at d1
  clear hT hrow
  have hi' : (i : Int) < (ms.length : Int) := by omega
  have hk' : (k : Int) < (ms.length : Int) := by omega
  have hi0 : (0 : Int) ≤ (i : Int) := by omega
  have hk0 : (0 : Int) ≤ (k : Int) := by omega
  have wi : IntKind.i64.wrap ((i : Int) + 1 - 1) = (i : Int) := by simp [IntKind.wrap, IntKind.bits, IntKind.signed]; omega
  have wk : IntKind.i64.wrap ((k : Int) + 1 - 1) = (k : Int) := by simp [IntKind.wrap, IntKind.bits, IntKind.signed]; omega
  have wi2 : IntKind.i64.wrap (i : Int) = (i : Int) := by simp [IntKind.wrap, IntKind.bits, IntKind.signed]; omega
  have wk2 : IntKind.i64.wrap (k : Int) = (k : Int) := by simp [IntKind.wrap, IntKind.bits, IntKind.signed]; omega
  have ai : (i : Int) + 1 - 1 = (i : Int) := by omega
  have ak : (k : Int) + 1 - 1 = (k : Int) := by omega
  go_enter Tryd.func30, Tryd.ntmps30
  go_wp2_with fail
  go_region_held3 (fun w' => w'.cell? ⟨cb, 0, none⟩ = some (.pointer (some ⟨tb, 0, none⟩)) ∧ w'.cell? ⟨tb, 1, none⟩ = some (.slice (some ⟨g, 0, none⟩) ms.length c) ∧ w'.cell? ⟨g, i, none⟩ = some (.slice A1 x.length c1) ∧ w'.cell? ⟨g, k, none⟩ = some (.slice A2 y.length c2))
    (first | exact ⟨hc, d1, hcx, hcy⟩ | done)
    (first | (go_at_call 17; refine (seCompare_calls E x y A1 A2 c1 c2 _ hE.drew hr1 hr2).mono ?_; rintro e w1 ⟨rfl, q, rfl⟩) | done)
  go_wp2_with fail
  go_ret
  exact ⟨rfl, 1 + q, rfl⟩

abbrev intC (z : Int) : List Value := [.int .i64 z]
theorem infoInt : (Tryd.prog.info? 3).map (fun i => (i.zero, i.size, i.bytes)) = some (some (.int .i64 0), 1, 8) := by kernel_rfl
def upF (k : Nat) : List Int := (List.range k).map fun (j : Nat) => (j : Int) + 1
theorem upF_succ (k : Nat) : upF (k + 1) = upF k ++ [(k : Int) + 1] := by simp [upF, List.range_succ]
theorem upF_len (k : Nat) : (upF k).length = k := by simp [upF]
end Go.Proofs.YtdnglhcconnocaaDoor
