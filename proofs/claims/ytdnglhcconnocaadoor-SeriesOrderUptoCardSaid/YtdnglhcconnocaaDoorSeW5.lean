/- The document's Of on a list of labels that the caller owns. Conditions: labels in memory that is not written; lengths. -/
import Derived.Test.YtdnglhcconnocaaDoorSeW4
namespace Go.Proofs.YtdnglhcconnocaaDoor
open Go.RowKit Go.Maps

/-- A list of lists of labels in a row of the caller's own. -/
def Rows2 (n0 : Nat) (E : Eh) (w : World) (v : Value) (ms : List Lab) : Prop :=
  ∃ ps : List (Lab × Value), ps.map (·.1) = ms ∧ Own w n0 28 1 labC v ps ∧ (∀ p ∈ ps, HdrS E p.1 p.2) ∧ ∀ g, v.ownBlock = some g → E g = none
theorem Rows2.read {n0 : Nat} {E : Eh} {w : World} {v : Value} {ms : List Lab} (h : Rows2 n0 E w v ms) :
    ∃ A c, v = .slice A ms.length c ∧ ∀ i x, ms[i]? = some x → ∃ g u, A = some ⟨g, 0, none⟩ ∧ w.cell? ⟨g, i, none⟩ = some u ∧ HdrS E x u := by
  obtain ⟨ps, h3, h2, h4, _⟩ := h
  obtain ⟨A, c, rfl⟩ := h2.slice
  have hpl : ps.length = ms.length := by rw [← h3, List.length_map]
  refine ⟨A, c, by rw [hpl], fun i x hi => ?_⟩
  rw [← h3, List.getElem?_map] at hi
  obtain ⟨p, hp, rfl⟩ := Option.map_eq_some_iff.1 hi
  have hlt := (List.getElem?_eq_some_iff.1 hp).1
  rcases h2.2 with ⟨_, h0⟩ | ⟨g, cap, cur, hv, hb, hg, hn, hc, hs, ht⟩
  · omega
  · injection hv with e1 _ _
    subst e1
    refine ⟨g, p.2, rfl, ?_, h4 p (List.mem_of_getElem? hp)⟩
    rw [cell_of_row _ _ _ _ _ _ hg]
    have hf := flat_get labC 1 (fun _ => rfl) ps i p 0 p.2 hp rfl
    rw [← ht, List.getElem?_take] at hf
    split at hf
    · simpa using hf
    · cases hf

theorem idx_at : ∀ {ms : List Lab} {x : Lab} {k : Nat}, idxF (ms.take k) x = none → ms[k]? = some x → idxF ms x = some k
  | [], _, _, _, h => by simp at h
  | a :: r, x, 0, _, h => by simp at h; subst h; simp [idxF]
  | a :: r, x, k + 1, h1, h2 => by
    simp only [List.take_succ_cons, List.getElem?_cons_succ] at h1 h2
    unfold idxF at h1 ⊢
    split at h1
    · cases h1
    · rename_i hne
      rw [if_neg hne, idx_at (Option.map_eq_none_iff.1 h1) h2]
      rfl
set_option maxHeartbeats 1000000 in
set_option maxRecDepth 100000 in
theorem refOf_calls (n0 : Nat) (E : Eh) (v : Value) (ms : List Lab) (most : Int) (x : Lab) (A : Option Addr) (c : Nat) (w : World) (hE : Et E w) (hR : Rows2 n0 E w v ms) (ha : Rd E 1 strC A x.length x) (hz : A = none → c = 0) (hms : ms.length ≤ 1000) (hn0 : n0 ≤ w.heap.size) :
    Calls Tryd.prog 11 #[v, .slice A x.length c, .int .i64 most] w fun e w' =>
      ∃ v', e = .returned (.tuple #[v', .int .i64 (ofF ms x most).2]) ∧ Et E w' ∧ Rows2 n0 E w' v' (ofF ms x most).1 ∧ w.grownBy w' v.ownBlock ∧ (v'.ownBlock = v.ownBlock ∨ ∃ g, v'.ownBlock = some g ∧ w.heap.size ≤ g) := by
  obtain ⟨Am, cm, rfl, hrow⟩ := hR.read
  have HR := Lib.hid hR
  clear hR
  go_enter Tryd.func11, Tryd.ntmps11
  go_wp2_with fail
  go_loopw [8] (fun i wr => ∃ k : Nat, k ≤ ms.length ∧ i = .int .i64 k ∧ idxF (ms.take k) x = none ∧ ∃ q, wr = w.drewN q) (fun i _ => ms.length - (intOf i).toNat)
  case atStart => exact ⟨0, by omega, rfl, rfl, 0, rfl⟩
  case round =>
    obtain ⟨k, hk, rfl, hno, q, rfl⟩ := hrel
    by_cases hlt : k < ms.length
    · obtain ⟨g, u, rfl, hc, Ay, cy, rfl, hry, hzy⟩ := hrow k ms[k] (List.getElem?_eq_getElem hlt)
      have hcq : (w.drewN q).cell? ⟨g, k, none⟩ = some (.slice Ay ms[k].length cy) := hc
      have hgk : ms[k]? = some ms[k] := List.getElem?_eq_getElem hlt
      by_cases hyx : ms[k] = x
      · have hix := idx_at hno (hgk.trans (by rw [hyx]))
        have hof : ofF ms x most = (ms, (k : Int) + 1) := by unfold ofF; rw [hix]
        have hd : decide (ms[k] = x) = true := decide_eq_true hyx
        generalize ms[k] = y at *
        have HYX := Lib.hid hyx
        clear hyx hgk hrow
        go_wp2_with fail
        refine (refSame_calls E y x Ay A cy c _ (hE.drewN q) hry ha).mono ?_; rintro e w1 ⟨rfl, q1, rfl⟩
        rw [hd]
        go_wp2_with fail
        go_ret2
        have hR := HR.out
        refine ⟨.slice (some ⟨g, 0, none⟩) ms.length cm, by rw [hof]; rfl, hE.drewN _, ?_, ⟨rfl, rfl, rfl, Nat.le_refl _, fun _ _ _ => rfl⟩, .inl rfl⟩
        rw [hof]
        obtain ⟨ps, h1, h2, h3, h4⟩ := hR
        exact ⟨ps, h1, h2.drewN _, h3, h4⟩
      · have hno' : idxF (ms.take (k + 1)) x = none := by
          rw [List.take_add_one, hgk]
          exact idx_snoc_other hno hyx
        have hd : decide (ms[k] = x) = false := decide_eq_false hyx
        generalize ms[k] = y at *
        clear hyx hgk hrow
        go_wp2_with fail
        refine (refSame_calls E y x Ay A cy c _ (hE.drewN q) hry ha).mono ?_; rintro e w1 ⟨rfl, q1, rfl⟩
        rw [hd]
        go_wp2_with fail
        exact ⟨⟨k + 1, by omega, by go_num, hno', q + q1, rfl⟩, by simp [intOf]; omega⟩
    · obtain rfl : k = ms.length := by omega
      rw [List.take_of_length_le (Nat.le_refl _)] at hno
      by_cases hroom : most ≤ (ms.length : Int)
      · have hof : ofF ms x most = (ms, 0) := by unfold ofF; rw [hno]; simp only []; rw [if_pos hroom]
        clear hrow
        go_wp2_with fail
        go_ret2
        have hR := HR.out
        refine ⟨.slice Am ms.length cm, by rw [hof]; rfl, hE.drewN _, ?_, ⟨rfl, rfl, rfl, Nat.le_refl _, fun _ _ _ => rfl⟩, .inl rfl⟩
        rw [hof]
        obtain ⟨ps, h1, h2, h3, h4⟩ := hR
        exact ⟨ps, h1, h2.drewN _, h3, h4⟩
      · have hof : ofF ms x most = (ms ++ [x], (ms.length : Int) + 1) := by unfold ofF; rw [hno]; simp only []; rw [if_neg hroom]
        clear hrow
        obtain ⟨ps, h1, h2, h3, h4⟩ := HR.out
        have hpl : ps.length = ms.length := by rw [← h1, List.length_map]
        have hlt2 := h2.lt
        have one2 : ∀ y ∈ [(x, Value.slice A x.length c)], ∀ u ∈ labC y, u.oneCell' = true := fun y hy u hu => by simp only [List.mem_singleton] at hy; subst hy; simp only [labC, List.mem_singleton] at hu; subst hu; rfl
        have ho0 : Own ((w.drewN q).alloc (.cells #[.slice A x.length c] 28)) n0 28 1 labC (.slice Am ms.length cm) ps := (h2.drewN q).alloc _
        have H1 := Lib.hid h1
        have H3 := Lib.hid h3
        have H4 := Lib.hid h4
        clear h1 h2 h3 h4
        go_wp2_with (at_builtin; refine app_list n0 rfl _ _ 22 28 (.slice none 0 0) 1 24 labC rfl Tryd.underlying22 infoLab rfl (by decide) (by decide) (.slice Am ms.length cm) ps (some ⟨w.heap.size, 0, none⟩) 1 1 [(x, .slice A x.length c)] rfl rfl (Src.of_block (heap_alloc_new (w.drewN q) _) rfl) (fun _ => rfl) one2 ho0 (by simp; omega) (by omega) ?_)
        intro v5 w5 ho5 hg5 hat5
        go_wp2_with fail
        go_ret2
        have hz5 := hg5.size
        have hfree : ∀ b, (Value.slice Am ms.length cm).ownBlock = some b → E b = none := H4.out
        refine ⟨v5, by rw [hof]; rfl, ((hE.drewN q).alloc _).grown hg5 hfree, ?_, ⟨hg5.os, hg5.tape, hg5.output, by simp at hz5; omega, fun b hb hne => (hg5.block b (by simp; omega) hne).trans (Below.heap_alloc (w.drewN q) _ b hb)⟩, ?_⟩
        · rw [hof]
          refine ⟨ps ++ [(x, .slice A x.length c)], by simp [H1.out], ho5, fun p hp => ?_, fun b hb => ?_⟩
          · rcases List.mem_append.1 hp with hp | hp
            · exact H3.out p hp
            · simp only [List.mem_singleton] at hp
              subst hp
              exact ⟨A, c, rfl, ha, hz⟩
          · rcases hat5 with h | h
            · exact hfree b (h.symm.trans hb)
            · rw [h] at hb
              injection hb with hb
              exact hE.out (by rw [← hb]; simp)
        · rcases hat5 with h | h
          · exact .inl h
          · exact .inr ⟨_, h, by simp⟩
end Go.Proofs.YtdnglhcconnocaaDoor
