/- The law's own Of on steps. Conditions: memory that reads as said. -/
import Derived.Test.YtdnglhcconnocaaDoorScJ1
import Derived.Test.YtdnglhcconnocaaDoorScW4
import Derived.Deep.RegionHeld3
namespace Go.Proofs.YtdnglhcconnocaaDoor
open Go.RowKit

/-- A step's bytes in memory that is not written; a slice of nothing has no room. -/
def HdrZ (E : Eh) (b : List Int) (v : Value) : Prop := ∃ A c, v = .slice A b.length c ∧ Rd E 1 byteC A b.length b ∧ isBytes b ∧ (A = none → c = 0)
def StepsZ (E : Eh) (A : Option Addr) (n : Nat) (l : List Stp) : Prop := ∃ ps : List (Stp × Value), ps.map (·.1) = l ∧ Rd E 4 pC A n ps ∧ ∀ p ∈ ps, HdrZ E p.1.b p.2
theorem StepsZ.steps {E : Eh} {A : Option Addr} {n : Nat} {l : List Stp} (h : StepsZ E A n l) : Steps E A n l := by
  obtain ⟨ps, h1, h2, h3⟩ := h
  exact ⟨ps, h1, h2, fun p hp => by obtain ⟨A, c, hv, hr, hb, _⟩ := h3 p hp; exact ⟨A, c, hv, hr, hb⟩⟩

theorem Own.empty {α : Type} (W : World) (base : Nat) (t : TypeId) (k : Nat) (cs : α → List Value) (hb : base ≤ W.heap.size) : Own (W.alloc (.cells #[] t)) base t k cs (.slice (some ⟨W.heap.size, 0, none⟩) 0 0) ([] : List α) :=
  ⟨by simp, .inr ⟨W.heap.size, 0, #[], rfl, hb, heap_alloc_new W _, Nat.le_refl _, Nat.zero_le _, by simp, by simp⟩⟩

set_option maxHeartbeats 1000000 in
set_option maxRecDepth 100000 in
/-- Of. -/
theorem of_calls (E : Eh) (l : List Stp) (A : Option Addr) (n c : Nat) (w : World) (hE : Et E w) (ha : StepsZ E A n l) (hn : n ≤ 1000) (hl : ∀ s ∈ l, s.b.length ≤ 70000) :
    Calls Tryd.prog 23 #[.slice A n c] w fun e w' => ∃ A' c' E', e = .returned (.slice A' n c') ∧ Ext E w E' w' ∧ Steps E' A' n l := by
  obtain ⟨ps, rfl, hr, hdr⟩ := ha
  have hpl := hr.1
  go_enter Tryd.func23, Tryd.ntmps23
  go_wp2_with fail
  go_loopw [3, 4] (fun out i wr => ∃ (k : Nat) (qs : List (Stp × Value)) (Er : Eh), k ≤ n ∧ i = .int .i64 k ∧ qs.map (·.1) = (ps.take k).map (·.1) ∧ Ext E w Er wr ∧ Own wr w.heap.size 50 4 pC out qs ∧ (∀ p ∈ qs, Hdr Er p.1.b p.2) ∧ (∀ g, out.ownBlock = some g → Er g = none)) (fun _ i _ => n - (intOf i).toNat)
  case atStart => exact ⟨0, [], E, by omega, rfl, rfl, Ext.refl hE, Own.nil _ _ _ _ _, (fun p hp => by cases hp), (fun g hg => by cases hg)⟩
  case round =>
    obtain ⟨k, qs, Er, hk, rfl, hqs, hext, hown, hq, hfree⟩ := hrel
    have hql : qs.length = k := by
      have := congrArg List.length hqs
      rw [List.length_map, List.length_map, List.length_take] at this
      omega
    have HQS := Lib.hid hqs
    clear hqs
    by_cases hlt : k < n
    · obtain ⟨g, off, p, rfl, hp, hcell⟩ := hr.at_ hlt
      obtain ⟨st, v⟩ := p
      have hmem := List.mem_of_getElem? hp
      obtain ⟨A1, c1, hv, hb1, hbb, hz⟩ := hdr _ hmem
      have hbl := hl st (List.mem_map.2 ⟨_, hmem, rfl⟩)
      simp only [] at hv hb1 hbb
      subst hv
      have hEr := hext.et
      have z0 := fun W (h : Et Er W) => hcell 0 _ rfl W (h.sub hext.le)
      have z1 := fun W (h : Et Er W) => hcell 1 _ rfl W (h.sub hext.le)
      have z2 := fun W (h : Et Er W) => hcell 2 _ rfl W (h.sub hext.le)
      have z3 := fun W (h : Et Er W) => hcell 3 _ rfl W (h.sub hext.le)
      simp only [Nat.add_zero, ← Nat.add_assoc] at z0 z1 z2 z3
      have hsrc := fun W (h : Et Er W) => Src.of_rd (c := c1) (h.sub hext.le) hb1 (fun _ => rfl) (by decide) hz
      have F := fun W (h : Et Er W) => And.intro h (And.intro (z0 W h) (And.intro (z1 W h) (And.intro (z2 W h) (z3 W h))))
      have one1 : ∀ y ∈ st.b, ∀ u ∈ byteC y, u.oneCell' = true := fun y _ u hu => by simp only [byteC, List.mem_singleton] at hu; subst hu; rfl
      have one2 : ∀ A c, ∀ y ∈ [(st, Value.slice A st.b.length c)], ∀ u ∈ pC y, u.oneCell' = true := fun A c y hy u hu => by simp only [List.mem_singleton] at hy; subst hy; simp only [pC, stpC, List.mem_cons, List.not_mem_nil, or_false] at hu; rcases hu with rfl | rfl | rfl | rfl <;> rfl
      have hbs : ∀ W : World, Below w.heap.size w W → w.heap.size ≤ (W.alloc (.cells #[] 5)).heap.size := fun W h => by have := h.size; simp; omega
      have hnE : Er wr.heap.size = none := hEr.out (Nat.le_refl _)
      have hsz := hext.below.size
      have hlt2 := hown.lt
      have hown0 : Own (wr.drew.alloc (.cells #[] 5)) wr.heap.size 5 1 byteC (.slice (some ⟨wr.heap.size, 0, none⟩) 0 0) [] := Own.empty wr.drew wr.heap.size 5 1 byteC (Nat.le_refl _)
      have hout0 : Own (wr.drew.alloc (.cells #[] 5)) w.heap.size 50 4 pC u3 qs := (hown.drewN 1).alloc _
      have x0 : Ext E w Er (wr.drew.alloc (.cells #[] 5)) := hext.drew.alloc _
      clear hcell hmem z0 z1 z2 z3
      go_wp2_with fail
      go_region_held3 (fun w' => Et Er w' ∧ w'.cell? ⟨g, off + k * 4, none⟩ = some (.int .i64 st.kind) ∧ w'.cell? ⟨g, off + k * 4 + 1, none⟩ = some (.int .i64 st.source) ∧ w'.cell? ⟨g, off + k * 4 + 2, none⟩ = some (.int .i64 st.shard) ∧ w'.cell? ⟨g, off + k * 4 + 3, none⟩ = some (.slice A1 st.b.length c1))
        (first | exact F _ hEr | exact F _ x0.et | exact F _ x1.et | exact F _ (x1.et.alloc _) | exact F _ x2)
        (first
          | (refine step_list wr.heap.size rfl _ _ 48 5 (.int .u8 0) 1 1 byteC rfl Tryd.underlying48 infoByte rfl (by decide) (by decide) _ [] A1 st.b.length c1 st.b rfl rfl (hsrc _ x0.et) (fun _ => rfl) one1 hown0 (by simp) (by simp; omega) ?_; intro v1 w1 ho1 hg1 hat1; rw [List.nil_append] at ho1; obtain ⟨A2, c2, rfl⟩ := ho1.slice; have x1 : Ext E w Er w1 := x0.grown hg1 (fun b hb => by injection hb with hb; subst hb; exact ⟨hsz, hnE⟩); have hout1 : Own w1 w.heap.size 50 4 pC u3 qs := World.ownsRow.kept hout0 hg1 (.inr (fun e => absurd (hlt2 _ e).2 (by simp))))
          | (refine step_list w.heap.size rfl _ _ 42 50 _ 4 48 pC rfl Tryd.underlying42 infoStepZ rfl (by decide) (by decide) u3 qs (some ⟨w1.heap.size, 0, none⟩) 1 1 [(st, .slice A2 st.b.length c2)] rfl rfl (Src.of_block (heap_alloc_new _ _) rfl) (fun _ => rfl) (one2 A2 c2) (hout1.alloc _) (by have := x1.below.size; simp; omega) (by omega) ?_; intro v2 w2 ho2 hg2 hat2; have x2 : Et Er w2 := (x1.et.alloc _).grown hg2 hfree))
      have hv1 : ∀ b, (Value.slice A2 st.b.length c2).ownBlock = some b → wr.heap.size ≤ b := fun b hb => by
        rcases hat1 with h | h
        · have hb' : some wr.heap.size = some b := h.symm.trans hb
          injection hb' with hb'
          omega
        · rw [h] at hb; injection hb with hb; subst hb; simp
      obtain ⟨E2, A3, c3, x3, hle3, hv3, hrd3, hfr3, _⟩ := Own.freeze (k := 1) (cs := byteC) (fun _ => rfl) ho1 x1 hsz (fun b hb => hEr.out (hv1 b hb))
      injection hv3 with hA3 _ hc3
      subst hA3 hc3
      have hfree3 : ∀ b, u3.ownBlock = some b → E2 b = none := fun b hb => hfr3 b (hfree b hb) (fun e => by have := hv1 b e; have := (hlt2 b hb).2; omega)
      have x4 := (x3.alloc (.cells #[.int .i64 st.kind, .int .i64 st.source, .int .i64 st.shard, .slice A2 st.b.length c2] 50)).grown hg2 (fun b hb => ⟨(hlt2 b hb).1, hfree3 b hb⟩)
      clear x0 x1 x2 hout0 hout1 hown0 hg1 hg2 hsrc F
      go_wp2_with fail
      refine ⟨⟨k + 1, qs ++ [(st, .slice A2 st.b.length c2)], E2, by omega, by go_num, ?_, x4, ho2, fun p' hp' => ?_, fun b hb => ?_⟩, by simp [intOf]; omega⟩
      · rw [List.map_append, HQS.out, List.take_add_one, hp]
        simp
      · rcases List.mem_append.1 hp' with hp' | hp'
        · exact (hq p' hp').up hle3
        · simp only [List.mem_singleton] at hp'
          subst hp'
          exact ⟨A2, c2, rfl, hrd3, hbb⟩
      · rcases hat2 with h | h
        · exact hfree3 b (h.symm.trans hb)
        · rw [h] at hb
          injection hb with hb
          exact x3.et.out (by rw [← hb]; simp)
    · go_wp2
      go_ret
      obtain rfl : k = n := by omega
      obtain ⟨E2, A3, c3, x3, hle3, rfl, hrd3, _, _⟩ := Own.freeze (k := 4) (cs := pC) (fun _ => rfl) hown hext (Nat.le_refl _) hfree
      have hm : qs.map (·.1) = ps.map (·.1) := by rw [HQS.out, List.take_of_length_le (by omega)]
      rw [hql] at hrd3
      exact ⟨A3, ⟨c3, by rw [hql]; rfl⟩, E2, x3, qs, hm, hrd3, fun p hp => (hq p hp).up hle3⟩
end Go.Proofs.YtdnglhcconnocaaDoor
