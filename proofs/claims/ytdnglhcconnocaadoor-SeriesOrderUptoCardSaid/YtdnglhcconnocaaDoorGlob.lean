/- The package-level variables of Go's library that these calls read, in memory that is not written. No condition. -/
import Derived.Test.YtdnglhcconnocaaDoorBase
import Derived.Lib.LaidTab
import Derived.Lib.ItoaNum
import Derived.Sort.Grow
import Derived.Lib.AtoiErrMem
namespace Go.Proofs.YtdnglhcconnocaaDoor
open Go.RowKit Go.Sort

structure Glob (E : Eh) : Prop where
  maxLen : ∃ m, E.cell 0 0 = some (.int .i64 m)
  pow : ∀ W, Et E W → Lib.TabIs Tryd.prog W "internal/strconv.uint64pow10" .u64 Lib.pow10Tab
  esyn : ∃ ev, E.cell 2 0 = some ev ∧ (ev = .nilIface ∨ ∃ te pe, ev = .iface te pe)
  erng : ∃ ev, E.cell 3 0 = some ev ∧ (ev = .nilIface ∨ ∃ te pe, ev = .iface te pe)
theorem Glob.up {E E' : Eh} (h : Glob E) (k : E.le E') : Glob E' where
  maxLen := by obtain ⟨m, hm⟩ := h.maxLen; exact ⟨m, k.cell hm⟩
  pow := fun W hW => h.pow W (hW.sub k)
  esyn := by obtain ⟨m, hm, r⟩ := h.esyn; exact ⟨m, k.cell hm, r⟩
  erng := by obtain ⟨m, hm, r⟩ := h.erng; exact ⟨m, k.cell hm, r⟩
theorem below_bytes {w w' : World} {e : TypeId} (h : w' = w ∨ ∃ t, w' = Lib.bytesWorld w e t) : Below w.heap.size w w' := by
  rcases h with rfl | ⟨t, rfl⟩
  · exact Below.refl _ _
  · exact Lib.bytesWorld_below _ _ _
theorem below_grows {w w' : World} (h : ∃ k os, w' = grow (w.drewN k) os) : Below w.heap.size w w' := by
  obtain ⟨k, os, rfl⟩ := h
  refine ⟨rfl, rfl, rfl, by simp [grow, World.drewN], fun i hi => ?_⟩
  simp only [grow, World.drewN]
  rw [Array.getElem?_append_left hi]
theorem below_drews {w w' : World} (h : ∃ k, w' = w.drewN k) : Below w.heap.size w w' := by
  obtain ⟨k, rfl⟩ := h
  exact ⟨rfl, rfl, rfl, Nat.le_refl _, fun _ _ => rfl⟩
end Go.Proofs.YtdnglhcconnocaaDoor
