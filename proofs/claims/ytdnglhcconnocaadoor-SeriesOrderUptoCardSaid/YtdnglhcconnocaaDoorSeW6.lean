/- The law's own alive. Conditions: the library's table. -/
import Derived.Test.YtdnglhcconnocaaDoorSeW5
namespace Go.Proofs.YtdnglhcconnocaaDoor
open Go.RowKit Go.Maps

theorem Rd.of_blockS {E : Eh} {b : Nat} {t : TypeId} {fr : Nat × Nat} (l : Lab) (h : E b = some (.cells (l.flatMap strC).toArray t fr)) (hn : l.length ≤ 9223372036854775807) : Rd E 1 strC (some ⟨b, 0, none⟩) l.length l :=
  ⟨rfl, hn, fun _ => ⟨b, 0, rfl, fun i x j v hi hj => by
    have := flat_get strC 1 (fun _ => rfl) l i x j v hi hj
    unfold Eh.cell
    rw [h, Nat.zero_add]
    simpa using this⟩⟩

set_option maxHeartbeats 1000000 in
set_option maxRecDepth 100000 in
theorem aliveS_calls (E : Eh) (w : World) (hE : Et E w) (hP : PowG E) :
    Calls Tryd.prog 8 #[] w fun e w' => e = .returned (.bool true) ∧ Below w.heap.size w w' := by
  go_enter Tryd.func8, Tryd.ntmps8
  go_wp2_with fail
  refine (new_ok E 1 _ hE (by decide) (by decide)).mono ?_; rintro e w1 ⟨tb, F, rfl, hb1, hT1, hF1⟩
  have x1 := Ext.of_below hE hb1
  go_wp2_with fail
  have x2 := (x1.alloc (.cells #[.string ⟨#[97]⟩] 9)).freeze (heap_alloc_new w1 (.cells #[.string ⟨#[97]⟩] 9)) (x1.et.out (Nat.le_refl _)) hb1.size
  have hT2 : TabS w.heap.size (E.put w1.heap.size (.cells #[.string ⟨#[97]⟩] 9)) (w1.alloc (.cells #[.string ⟨#[97]⟩] 9)) F tb 1 [] := hT1.keep (fun b hb => Below.heap_alloc w1 _ b (hT1.low b hb).2.1) (by simp) x2.le (fun b hb => by unfold Eh.put; rw [if_neg (by have := (hT1.low b hb).2.1; omega)]; exact (hT1.low b hb).2.2)
  refine (tof_calls w.heap.size _ F tb 1 [] [⟨#[97]⟩] _ 1 1 _ x2.et (hP.up x2.le) hT2 rfl (Rd.of_blockS [⟨#[97]⟩] (by unfold Eh.put; rw [if_pos rfl]; rfl) (by decide)) (by decide +kernel) (by decide) (by decide) (by have := hb1.size; simp; omega) (by decide)).mono ?_
  have ho1 : ofF [] [⟨#[97]⟩] 1 = ([[⟨#[97]⟩]], 1) := by decide +kernel
  have ho2 : ofF [[⟨#[97]⟩]] [⟨#[98]⟩] 1 = ([[⟨#[97]⟩]], 0) := by decide +kernel
  rw [ho1]
  rintro e w3 ⟨E3, F3, rfl, hle3, hE3, hbl3, hT3, hF3, hk3⟩
  have hEE3 : E.le E3 := x2.le.trans hle3
  have hb3 : Below w.heap.size w w3 := (hb1.alloc hb1.size _).trans hbl3
  clear hT2 x2 hT1 x1 hF3 hk3
  go_wp2_with fail
  have y1 := ((Ext.refl hE3).alloc (.cells #[.string ⟨#[98]⟩] 9)).freeze (heap_alloc_new w3 (.cells #[.string ⟨#[98]⟩] 9)) (hE3.out (Nat.le_refl _)) (Nat.le_refl _)
  have hT4 : TabS w.heap.size (E3.put w3.heap.size (.cells #[.string ⟨#[98]⟩] 9)) (w3.alloc (.cells #[.string ⟨#[98]⟩] 9)) F3 tb 1 [[⟨#[97]⟩]] := hT3.ext y1
  refine (tof_calls w.heap.size _ F3 tb 1 [[⟨#[97]⟩]] [⟨#[98]⟩] _ 1 1 _ y1.et (hP.up (hEE3.trans y1.le)) hT4 rfl (Rd.of_blockS [⟨#[98]⟩] (by unfold Eh.put; rw [if_pos rfl]; rfl) (by decide)) (by decide +kernel) (by decide) (by decide) (by have := hb3.size; simp; omega) (by decide)).mono ?_
  rw [ho2]
  rintro e w5 ⟨E5, F5, rfl, hle5, hE5, hbl5, hT5, hF5, hk5⟩
  have hb5 : Below w.heap.size w w5 := (hb3.alloc hb3.size _).trans hbl5
  clear hT4 y1 hT3 hF5 hk5
  go_wp2_with fail
  refine (new_no 0 _ (by decide)).mono ?_; rintro e w6 ⟨rfl, rfl⟩
  go_wp2_with fail
  refine (len_calls _ _ _ _ _ _ _ hT5).mono ?_; rintro e w7 ⟨rfl, rfl⟩
  go_wp2_with fail
  go_ret
  exact ⟨rfl, hb5⟩
end Go.Proofs.YtdnglhcconnocaaDoor
