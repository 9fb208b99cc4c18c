/- The law's own same on steps. Conditions: memory that reads as said. -/
import Derived.Test.YtdnglhcconnocaaDoorScBytes
import Derived.Test.YtdnglhcconnocaaDoorScJ1
import Derived.Test.YtdnglhcconnocaaDoorScJ2
namespace Go.Proofs.YtdnglhcconnocaaDoor
open Go.RowKit

set_option maxHeartbeats 1000000 in
set_option maxRecDepth 100000 in
/-- same, of two lists that are the same. -/
theorem same_calls (E : Eh) (l : List Stp) (A B : Option Addr) (n m c d : Nat) (w : World) (hE : Et E w) (ha : Steps E A n l) (hb : Steps E B m l) :
    Calls Tryd.prog 24 #[.slice A n c, .slice B m d] w fun e w' => e = .returned (.bool true) ∧ Below w.heap.size w w' := by
  obtain ⟨ps, hps, hr, hdr⟩ := ha
  obtain ⟨qs, hqs, hr', hdr'⟩ := hb
  have hl := hr.1
  have hl' := hr'.1
  have hmn : m = n := by
    have h1 := congrArg List.length hps
    have h2 := congrArg List.length hqs
    rw [List.length_map] at h1 h2
    omega
  subst hmn
  have hm0 := hr.2.1
  have HPS := Lib.hid hps
  have HQS := Lib.hid hqs
  clear hps hqs
  go_enter Tryd.func24, Tryd.ntmps24
  go_wp2_with fail
  go_loopw [5] (fun i wr => ∃ k : Nat, k ≤ m ∧ i = .int .i64 k ∧ Below w.heap.size w wr) (fun i _ => m - (intOf i).toNat)
  case atStart => exact ⟨0, by omega, rfl, Below.refl _ _⟩
  case round =>
    obtain ⟨k, hk, rfl, hbr⟩ := hrel
    by_cases hlt : k < m
    · obtain ⟨g, off, p, rfl, hp, hcell⟩ := hr.at_ hlt
      obtain ⟨g', off', q, rfl, hq, hcell'⟩ := hr'.at_ hlt
      obtain ⟨st, v⟩ := p
      obtain ⟨st', v'⟩ := q
      have hss : st' = st := by
        have h1 : l[k]? = some st := by rw [← HPS.out, List.getElem?_map, hp]; rfl
        have h2 : l[k]? = some st' := by rw [← HQS.out, List.getElem?_map, hq]; rfl
        rw [h1] at h2
        injection h2 with h2
        exact h2.symm
      subst hss
      obtain ⟨A1, c1, hv, hb1, hbb⟩ := hdr _ (List.mem_of_getElem? hp)
      obtain ⟨A2, c2, hv', hb2, _⟩ := hdr' _ (List.mem_of_getElem? hq)
      simp only [] at hv hb1 hbb hv' hb2
      subst hv hv'
      have hEr := hE.below hbr
      have q0 := hcell 0 _ rfl
      have q1 := hcell 1 _ rfl
      have q2 := hcell 2 _ rfl
      have q3 := hcell 3 _ rfl
      have z0 := hcell' 0 _ rfl
      have z1 := hcell' 1 _ rfl
      have z2 := hcell' 2 _ rfl
      have z3 := hcell' 3 _ rfl
      simp only [Nat.add_zero, ← Nat.add_assoc] at q0 q1 q2 q3 z0 z1 z2 z3
      clear hcell hcell' hp hq
      have e0 : (st'.kind != st'.kind) = false := by simp
      have e1 : (st'.source != st'.source) = false := by simp
      have e2 : (st'.shard != st'.shard) = false := by simp
      go_wp2_with fail
      go_region_held3 (fun w' => Et E w' ∧ w'.cell? ⟨g, off + k * 4, none⟩ = some (.int .i64 st'.kind) ∧ w'.cell? ⟨g', off' + k * 4, none⟩ = some (.int .i64 st'.kind) ∧ w'.cell? ⟨g, off + k * 4 + 1, none⟩ = some (.int .i64 st'.source) ∧ w'.cell? ⟨g', off' + k * 4 + 1, none⟩ = some (.int .i64 st'.source) ∧ w'.cell? ⟨g, off + k * 4 + 2, none⟩ = some (.int .i64 st'.shard) ∧ w'.cell? ⟨g', off' + k * 4 + 2, none⟩ = some (.int .i64 st'.shard) ∧ w'.cell? ⟨g, off + k * 4 + 3, none⟩ = some (.slice A1 st'.b.length c1) ∧ w'.cell? ⟨g', off' + k * 4 + 3, none⟩ = some (.slice A2 st'.b.length c2))
        (exact ⟨hEr, q0 _ hEr, z0 _ hEr, q1 _ hEr, z1 _ hEr, q2 _ hEr, z2 _ hEr, q3 _ hEr, z3 _ hEr⟩)
        (first | (go_at_call 26; refine (bytesEq_same A1 A2 _ _ c1 c2 st'.b _ (BytesAre.of hEr.drew hb1) (BytesAre.of hEr.drew hb2) hbb).mono ?_; rintro e w5 ⟨rfl, rfl⟩))
      clear q0 q1 q2 q3 z0 z1 z2 z3
      go_wp2_with fail
      exact ⟨⟨k + 1, by omega, by go_num, hbr.drew⟩, by simp [intOf]; omega⟩
    · go_wp2
      go_ret
      exact ⟨rfl, hbr⟩

end Go.Proofs.YtdnglhcconnocaaDoor
