/- A table of series in memory, and the calls New, Len and Of on it. Conditions: labels in memory that is not written; lengths; the library's table. -/
import Derived.Test.YtdnglhcconnocaaDoorSeW2
import Derived.Test.YtdnglhcconnocaaDoorSeF2
import Derived.Carry
import Derived.Deep.RegionLaw
import Derived.StillTailTactics
namespace Go.Proofs.YtdnglhcconnocaaDoor
open Go.RowKit Go.Maps

theorem lawS : Keyed Tryd.prog 9 := string_keyed Tryd.underlying9
theorem zeroInt (w : World) : (zeroValue 3).run Tryd.prog w = .ok (.int .i64 0) w := by kernel_rfl
/-- A table: its cells, its row of lists of labels, its map; F: the blocks that are its own. -/
def TabS (n0 : Nat) (E : Eh) (w : World) (F : Nat → Prop) (tb : Nat) (most : Int) (ms : List Lab) : Prop :=
  ∃ (v : Value) (mb : Nat) (D : DataW Unit) (ps : List (Lab × Value)),
    Blk w tb 63 #[.int .i64 most, v, .map (some mb)] ∧ Own w n0 28 1 labC v ps ∧ ps.map (·.1) = ms ∧ (∀ p ∈ ps, HdrS E p.1 p.2) ∧
    w.ownsMap Tryd.prog 9 (plainElem Tryd.prog 3) mb ms.length D ∧ MapS D ms ∧ F tb ∧ F mb ∧ (∀ g, v.ownBlock = some g → F g) ∧ (∀ b, F b → n0 ≤ b ∧ b < w.heap.size ∧ E b = none)
theorem TabS.keep {n0 : Nat} {E E' : Eh} {w w' : World} {F : Nat → Prop} {tb : Nat} {most : Int} {ms : List Lab} (h : TabS n0 E w F tb most ms) (hk : ∀ b, F b → w'.heap[b]? = w.heap[b]?) (hs : w.heap.size ≤ w'.heap.size) (hE : E.le E') (hn : ∀ b, F b → E' b = none) : TabS n0 E' w' F tb most ms := by
  obtain ⟨v, mb, D, ps, h1, h2, h3, h4, h5, h6, f1, f2, f3, f4⟩ := h
  refine ⟨v, mb, D, ps, (hk tb f1).trans h1, ?_, h3, (fun p hp => (h4 p hp).up hE), ?_, h6, f1, f2, f3, fun b hb => ⟨(f4 b hb).1, Nat.lt_of_lt_of_le (f4 b hb).2.1 hs, hn b hb⟩⟩
  · refine ⟨h2.1, ?_⟩
    rcases h2.2 with hl | ⟨g, cap, cur, rfl, hb, hg, r⟩
    · exact .inl hl
    · exact .inr ⟨g, cap, cur, rfl, hb, (hk g (f3 g rfl)).trans hg, r⟩
  · obtain ⟨es, clock, hb, r⟩ := h5
    exact ⟨es, clock, (hk mb f2).trans hb, r⟩
theorem TabS.ext {n0 : Nat} {E E' : Eh} {w w' : World} {F : Nat → Prop} {tb : Nat} {most : Int} {ms : List Lab} (h : TabS n0 E w F tb most ms) (x : Ext E w E' w') : TabS n0 E' w' F tb most ms := by
  have f4 : ∀ b, F b → n0 ≤ b ∧ b < w.heap.size ∧ E b = none := by
    obtain ⟨v, mb, D, ps, h1, h2, h3, h4, h5, h6, f1, f2, f3, f4⟩ := h
    exact f4
  exact h.keep (fun b hb => x.below.block b (f4 b hb).2.1) x.below.size x.le (fun b hb => x.free (f4 b hb).2.2 (f4 b hb).2.1)
theorem TabS.low {n0 : Nat} {E : Eh} {w : World} {F : Nat → Prop} {tb : Nat} {most : Int} {ms : List Lab} (h : TabS n0 E w F tb most ms) : ∀ b, F b → n0 ≤ b ∧ b < w.heap.size ∧ E b = none := by
  obtain ⟨v, mb, D, ps, h1, h2, h3, h4, h5, h6, f1, f2, f3, f4⟩ := h
  exact f4

set_option maxHeartbeats 1000000 in
set_option maxRecDepth 100000 in
theorem new_ok (E : Eh) (most : Int) (w : World) (hE : Et E w) (h1 : 1 ≤ most) (h2 : most ≤ 65536) :
    Calls Tryd.prog 9 #[.int .i64 most] w fun e w' => ∃ tb F, e = .returned (.tuple #[.pointer (some ⟨tb, 0, none⟩), .int .i64 0]) ∧ Below w.heap.size w w' ∧ TabS w.heap.size E w' F tb most [] ∧ (∀ b, F b → w.heap.size ≤ b) := by
  have hmm := @run_makeMap Tryd.prog
  have n1 : ¬ most < 1 := by omega
  have n2 : ¬ 65536 < most := by omega
  go_enter Tryd.func9, Tryd.ntmps9
  go_wp2_with fail
  go_ret2
  have hb : Below w.heap.size w (w.alloc (.map #[] 0)) := (Below.refl _ _).alloc (Nat.le_refl _) _
  have hb2 := hb.alloc hb.size (.cells #[.int .i64 most, .slice none 0 0, .map (some w.heap.size)] 63)
  have hz : (w.alloc (.map #[] 0)).heap.size = w.heap.size + 1 := by simp
  refine ⟨w.heap.size + 1, rfl, hb2, fun b => b = w.heap.size ∨ b = w.heap.size + 1, ⟨.slice none 0 0, w.heap.size, .map [], [], ?_, Own.nil _ _ _ _ _, rfl, (fun p hp => by cases hp), (World.ownsMap_made w _ _ _).alloc _, MapS.nil, .inr rfl, .inl rfl, (fun g hg => by cases hg), ?_⟩, ?_⟩
  · have := Blk.new (w.alloc (.map #[] 0)) 63 #[.int .i64 most, .slice none 0 0, .map (some w.heap.size)]
    rw [hz] at this
    exact this
  · intro b hb
    rcases hb with rfl | rfl
    · exact ⟨Nat.le_refl _, by simp; omega, hE.out (Nat.le_refl _)⟩
    · exact ⟨by omega, by simp, hE.out (by omega)⟩
  · intro b hb
    rcases hb with rfl | rfl <;> omega
set_option maxHeartbeats 1000000 in
set_option maxRecDepth 100000 in
theorem new_no (most : Int) (w : World) (h : ¬ (1 ≤ most ∧ most ≤ 65536)) :
    Calls Tryd.prog 9 #[.int .i64 most] w fun e w' => e = .returned (.tuple #[.pointer none, .int .i64 1]) ∧ w' = w := by
  by_cases n1 : most < 1
  · go_enter Tryd.func9, Tryd.ntmps9
    go_wp2_with fail
    go_ret2
    exact ⟨rfl, rfl⟩
  · have n2 : 65536 < most := by omega
    go_enter Tryd.func9, Tryd.ntmps9
    go_wp2_with fail
    go_ret2
    exact ⟨rfl, rfl⟩

set_option maxHeartbeats 1000000 in
set_option maxRecDepth 100000 in
theorem tof_long (tb : Nat) (A : Option Addr) (n c : Nat) (w : World) (h16 : 16 < n) :
    Calls Tryd.prog 10 #[.pointer (some ⟨tb, 0, none⟩), .slice A n c] w fun e w' => e = .returned (.tuple #[.int .i64 0, .int .i64 2]) ∧ w' = w := by
  go_enter Tryd.func10, Tryd.ntmps10
  go_wp2_with fail
  go_ret2
  exact ⟨rfl, rfl⟩

theorem infoLab : (Tryd.prog.info? 28).map (fun i => (i.zero, i.size, i.bytes)) = some (some (.slice none 0 0), 1, 24) := by kernel_rfl
set_option maxHeartbeats 1000000 in
set_option maxRecDepth 100000 in
/-- What Of does to a table. -/
theorem tof_calls (n0 : Nat) (E : Eh) (F : Nat → Prop) (tb : Nat) (most : Int) (ms : List Lab) (x : Lab) (A : Option Addr) (n c : Nat) (w : World) (hE : Et E w) (hP : PowG E) (hT : TabS n0 E w F tb most ms) (hn : n = x.length) (ha : Rd E 1 strC A n x)
    (hl : (keyF x).length ≤ 10000000) (hs : ∀ s ∈ x, s.size ≤ 10000000) (hms : ms.length ≤ 1000) (hn0 : n0 ≤ w.heap.size) (h16 : ¬ 16 < n) :
    Calls Tryd.prog 10 #[.pointer (some ⟨tb, 0, none⟩), .slice A n c] w fun e w' =>
      ∃ E' F', e = .returned (.tuple #[.int .i64 (ofF ms x most).2, .int .i64 0]) ∧ E.le E' ∧ Et E' w' ∧ Below n0 w w' ∧ TabS n0 E' w' F' tb most (ofF ms x most).1 ∧ (∀ b, F' b → F b ∨ w.heap.size ≤ b) ∧ (∀ b, b < w.heap.size → ¬ F b → w'.heap[b]? = w.heap[b]? ∧ (E b = none → E' b = none)) := by
  subst hn
  have hlow := hT.low
  have hT0 := hT
  obtain ⟨v, mb, D, ps, hB, hown, hps, hdr, hmap, hM, f1, f2, f3, _⟩ := hT
  have c0 := hB.cell 0
  have c1 := hB.cell 1
  have c2 := hB.cell 2
  simp only [List.getElem?_toArray, List.getElem?_cons_zero, List.getElem?_cons_succ] at c0 c1 c2
  obtain ⟨A0, cap0, rfl⟩ := hown.slice
  have hpl : ps.length = ms.length := by rw [← hps, List.length_map]
  go_enter Tryd.func10, Tryd.ntmps10
  go_wp2_with fail
  refine (key_calls E x A x.length c _ hE hP rfl ha (by omega) (fun s h => by have := hs s h; omega)).mono ?_; rintro e w1 ⟨rfl, hb1⟩
  have x1 := Ext.of_below hE hb1
  have hT1 := hT0.ext x1
  have hB1 := hB.step hb1
  have d0 := hB1.cell 0
  have d1 := hB1.cell 1
  have d2 := hB1.cell 2
  simp only [List.getElem?_toArray, List.getElem?_cons_zero, List.getElem?_cons_succ] at d0 d1 d2
  have hmap1 : w1.ownsMap Tryd.prog 9 (plainElem Tryd.prog 3) mb ms.length D := by
    obtain ⟨es, clock, hb, r⟩ := hmap
    exact ⟨es, clock, (hb1.block mb (hlow mb f2).2.1).trans hb, r⟩
  have hkey : keyOf Tryd.prog 9 (.string ⟨(keyF x).toArray⟩) = some (.string (keyF x)) := by
    have := WideMaps.keyOf_string_mk Tryd.underlying9 (s := ⟨(keyF x).toArray⟩) (by show (keyF x).toArray.size ≤ _; rw [List.size_toArray]; unfold maxLen; omega)
    simpa using this
  clear c0 c1 c2
  have hMx := hM.2 x
  cases hi : idxF ms x with
  | some i =>
    rw [hi] at hMx
    have hof : ofF ms x most = (ms, (i : Int) + 1) := by unfold ofF; rw [hi]
    have hcc : ∀ cc : Int, D.atKey (.string (keyF x)) (.lit (.int .i64 0)) = .lit (.int .i64 cc) → cc = (i : Int) + 1 := by
      intro cc hat
      have h := hMx.2 (.lit (.int .i64 0))
      rw [hat] at h
      injection h with h
      injection h with _ h
    go_wp2_with (at_lookup; refine wpList_lookup_own_ok_int _ rfl _ _ 61 rfl 9 3 .i64 lawS Tryd.underlying61 Tryd.underlying3 (zeroInt _) mb _ D rfl hmap1 _ _ rfl hkey ?_; intro cc hat hwc; obtain rfl : cc = (i : Int) + 1 := hcc cc hat; rw [hMx.1])
    go_ret2
    refine ⟨E, F, by rw [hof]; rfl, Eh.le.refl E, x1.et, hb1.mono hn0, ?_, fun b hb => .inl hb, fun b hb hf => ⟨hb1.block b hb, fun h => h⟩⟩
    rw [hof]
    exact hT1
  | none =>
    rw [hi] at hMx
    have hmx : x ∉ ms := idx_none.1 hi
    go_wp2_with (at_lookup; refine wpList_lookup_own_ok_int _ rfl _ _ 61 rfl 9 3 .i64 lawS Tryd.underlying61 Tryd.underlying3 (zeroInt _) mb _ D rfl hmap1 _ _ rfl hkey ?_; intro cc hat hwc; rw [hMx])
    by_cases hroom : most ≤ (ms.length : Int)
    · have hof : ofF ms x most = (ms, 0) := by unfold ofF; rw [hi]; simp only []; rw [if_pos hroom]
      rw [hpl] at d1
      go_wp2_with fail
      go_region_held3 (fun w' => w'.cell? ⟨tb, 0, none⟩ = some (.int .i64 most) ∧ w'.cell? ⟨tb, 1, none⟩ = some (.slice A0 ms.length cap0))
        (exact ⟨d0, d1⟩)
        (first | skip)
      go_wp2_with fail
      go_ret2
      refine ⟨E, F, by rw [hof]; rfl, Eh.le.refl E, x1.et.drew, (hb1.mono hn0).drew, ?_, fun b hb => .inl hb, fun b hb hf => ⟨hb1.block b hb, fun h => h⟩⟩
      rw [hof]
      exact hT1.ext ((Ext.refl x1.et).drew)
    · have hof : ofF ms x most = (ms ++ [x], (ms.length : Int) + 1) := by unfold ofF; rw [hi]; simp only []; rw [if_neg hroom]
      rw [hpl] at d1
      go_wp2_with fail
      go_region_held3 (fun w' => w'.cell? ⟨tb, 0, none⟩ = some (.int .i64 most) ∧ w'.cell? ⟨tb, 1, none⟩ = some (.slice A0 ms.length cap0))
        (exact ⟨d0, d1⟩)
        (first | skip)
      have FB : ∀ W, Blk W tb 63 #[.int .i64 most, .slice A0 ms.length cap0, .map (some mb)] → W.cell? ⟨tb, 1, none⟩ = some (.slice A0 ms.length cap0) ∧ W.frozen? ⟨tb, 1, none⟩ = false := fun W h => ⟨h.cell 1, h.frozen 1⟩
      rw [hpl] at hB1
      have ho1 : Own w1 n0 28 1 labC (.slice A0 ms.length cap0) ps := by have := Own.step hown hb1; rw [hpl] at this; exact this
      have hne1 : (Value.slice A0 ms.length cap0).ownBlock ≠ some tb := ho1.ne hB1 (by decide)
      have one2 : ∀ A c, ∀ y ∈ [(x, Value.slice A x.length c)], ∀ u ∈ labC y, u.oneCell' = true := fun A c y hy u hu => by simp only [List.mem_singleton] at hy; subst hy; simp only [labC, List.mem_singleton] at hu; subst hu; rfl
      have hB1d : Blk w1.drew.drew tb 63 #[.int .i64 most, .slice A0 ms.length cap0, .map (some mb)] := hB1
      have ho1d : Own w1.drew.drew n0 28 1 labC (.slice A0 ms.length cap0) ps := ho1
      clear d0 d1 d2
      go_wp2_with fail
      have g0 := (FB _ hB1d).1
      have hmb1 : mb < w1.heap.size := hmap1.lt
      have hmbt : mb ≠ tb := by
        obtain ⟨es, clock, hb, _⟩ := hmap1
        intro e
        rw [e, hB1] at hb
        cases hb
      have hmbA : (Value.slice A0 ms.length cap0).ownBlock ≠ some mb := by
        obtain ⟨es, clock, hb, _⟩ := hmap1
        rcases ho1.2 with ⟨h1, _⟩ | ⟨g', cap', cur', h1, _, hh, _⟩
        · rw [h1]; simp [Value.ownBlock]
        · rw [h1]
          intro e
          have : g' = mb := by simpa [Value.ownBlock] using e
          subst this
          rw [hh] at hb
          cases hb
      go_region_law (first
          | (refine step_list n0 rfl _ _ 22 28 (.slice none 0 0) 1 24 labC rfl Tryd.underlying22 infoLab rfl (by decide) (by decide) (.slice A0 ms.length cap0) ps (some ⟨w3.heap.size, 0, none⟩) 1 1 [(x, .slice A3 x.length c3)] rfl rfl (Src.of_block (heap_alloc_new _ _) rfl) (fun _ => rfl) (one2 A3 c3) (ho3.alloc _) (by have := hb1.size; simp; omega) (by omega) ?_; intro v5 w5 ho5 hg5 hat5; obtain ⟨A5, c5, rfl⟩ := ho5.slice; have hB5 := (hB3.alloc (.cells #[.slice A3 x.length c3] 28)).grown hg5 hne1; have g5 := (FB _ hB5).1; have g5' := (FB _ hB5).2)
          | (go_simp; go_at_call 28; refine (clone_calls E x A x.length c _ x1.et.drew.drew rfl ha (by omega)).mono ?_; rintro e w3 ⟨v3, E3, rfl, x3, hh3, hk3⟩; obtain ⟨A3, c3, rfl, hr3, hz3⟩ := hh3; have hB3 := hB1d.step x3.below; have ho3 : Own w3 n0 28 1 labC (.slice A0 ms.length cap0) ps := Own.step ho1d x3.below; have hz31 : w1.heap.size ≤ w3.heap.size := x3.below.size; have g3 := (FB _ hB3).1; have g3' := (FB _ (hB3.alloc (.cells #[.slice A3 x.length c3] 28))).1)
          | done)
      all_goals
        have hB6 := hB5.set_ 1 (.slice A5 (ms.length + 1) c5)
        have e0 := hB6.cell 0
        have e1 := hB6.cell 1
        have e2 := hB6.cell 2
        simp only [List.setIfInBounds_toArray, List.set_cons_succ, List.set_cons_zero, List.getElem?_toArray, List.getElem?_cons_zero, List.getElem?_cons_succ] at e0 e1 e2
        clear g0 g3 g3' g5 g5' FB
        go_wp2_with fail
        generalize hW6 : w5.setCell ⟨tb, 1, none⟩ (.slice A5 (ms.length + 1) c5) = w6 at hB6 e0 e1 e2 ⊢
        go_still_tail 10, (by kernel_rfl)
        change wpList _ _ _ _ _ w6.drew
        have hm6 : w6.heap[mb]? = w1.heap[mb]? := by
          rw [← hW6, Below.heap_setCell w5 ⟨tb, 1, none⟩ _ mb hmbt, hg5.block mb (by simp; omega) (fun e => hmbA e.symm), Below.heap_alloc w3 _ mb (by omega)]
          exact x3.below.block mb hmb1
        have hmap6 : w6.drew.ownsMap Tryd.prog 9 (plainElem Tryd.prog 3) mb ms.length D := by
          obtain ⟨es, clock, hb, r⟩ := hmap1
          exact ⟨es, clock, hm6.trans hb, r⟩
        go_wp2_with (at_mapUpdate; refine wpList_mapUpdate_own _ rfl _ _ _ 61 rfl 9 3 lawS Tryd.underlying61 _ mb ms.length D rfl hmap6 (by unfold maxLen; omega) _ _ _ rfl rfl hkey _ [] (plainElem_int Tryd.underlying3 (WalkArith.wf_i64 (by omega))) ?_; intro w7 hown7 hgrow7; have hB7 : Blk w7 tb 63 #[.int .i64 most, .slice A5 (ms.length + 1) c5, .map (some mb)] := Blk.grown (w := w6.drew) hB6 hgrow7 (fun e => hmbt (by injection e)); have y1 := hB7.cell 1)
        go_ret2
        rw [hpl] at f3
        have hz01 : w.heap.size ≤ w1.heap.size := hb1.size
        have hz35 : w3.heap.size + 1 ≤ w5.heap.size := by have := hg5.size; simpa using this
        have hz56 : w6.heap.size = w5.heap.size := by rw [← hW6]; simp
        have hz67 : w6.heap.size ≤ w7.heap.size := hgrow7.size
        have hk3w : ∀ b, b < w3.heap.size → ¬ F b → w7.heap[b]? = w3.heap[b]? := by
          intro b hb hf
          have n1 : some b ≠ some mb := fun e => hf (by injection e with e; rw [e]; exact f2)
          rw [hgrow7.block b (show b < w6.heap.size by omega) n1]
          show w6.heap[b]? = _
          rw [← hW6, Below.heap_setCell w5 ⟨tb, 1, none⟩ _ b (fun e => hf (by rw [e]; exact f1)), hg5.block b (by simp; omega) (fun e => hf (f3 b e.symm)), Below.heap_alloc w3 _ b (by omega)]
        have hE3F : ∀ b, F b → E3 b = none := fun b hb => hk3 b (hlow b hb).2.2 (show b < w1.heap.size by have := (hlow b hb).2.1; omega)
        have hE37 : Et E3 w7 := fun b o hb => by
          have hf : ¬ F b := fun h => by rw [hE3F b h] at hb; cases hb
          rw [hk3w b (x3.et.lt hb) hf]
          exact x3.et b o hb
        have hkeep : ∀ b, b < w.heap.size → ¬ F b → w7.heap[b]? = w.heap[b]? := fun b hb hf => by
          rw [hk3w b (by omega) hf]
          exact (x3.below.block b (show b < w1.heap.size by omega)).trans (hb1.block b hb)
        have hbl7 : Below n0 w w7 := ⟨by rw [hgrow7.os]; show w6.os = _; rw [← hW6]; exact hg5.os.trans (x3.below.os.trans hb1.os), by rw [hgrow7.tape]; show w6.tape = _; rw [← hW6]; exact hg5.tape.trans (x3.below.tape.trans hb1.tape), by rw [hgrow7.output]; show w6.output = _; rw [← hW6]; exact hg5.output.trans (x3.below.output.trans hb1.output), by omega, fun b hb => hkeep b (by omega) (fun h => by have := (hlow b h).1; omega)⟩
        have hpl5 : (ps ++ [(x, Value.slice A3 x.length c3)]).length = ms.length + 1 := by simp [hpl]
        have hne5 : (Value.slice A5 (ps ++ [(x, Value.slice A3 x.length c3)]).length c5).ownBlock ≠ some tb := ho5.ne hB5 (by decide)
        have hm5 : w5.heap[mb]? = w1.heap[mb]? := by
          rw [hg5.block mb (by simp; omega) (fun e => hmbA e.symm), Below.heap_alloc w3 _ mb (by omega)]
          exact x3.below.block mb hmb1
        have hne5m : (Value.slice A5 (ps ++ [(x, Value.slice A3 x.length c3)]).length c5).ownBlock ≠ some mb := by
          obtain ⟨es, clock, hb, _⟩ := hmap1
          rcases ho5.2 with ⟨h1, _⟩ | ⟨g', cap', cur', h1, _, hh, _⟩
          · rw [h1]; simp [Value.ownBlock]
          · rw [h1]
            intro e
            have : g' = mb := by simpa [Value.ownBlock] using e
            subst this
            rw [hh, hb] at hm5
            cases hm5
        have ho6 : Own w6 n0 28 1 labC (.slice A5 (ps ++ [(x, Value.slice A3 x.length c3)]).length c5) (ps ++ [(x, Value.slice A3 x.length c3)]) := World.ownsRow.kept (row := some tb) ho5 (by rw [← hW6]; exact ⟨rfl, rfl, rfl, by simp, fun k _ hk => Below.heap_setCell w5 ⟨tb, 1, none⟩ _ k (fun e => hk (by rw [e]))⟩) (.inr hne5)
        have ho7 : Own w7 n0 28 1 labC (.slice A5 (ps ++ [(x, Value.slice A3 x.length c3)]).length c5) (ps ++ [(x, Value.slice A3 x.length c3)]) := World.ownsRow.kept (w := w6.drew) ho6 hgrow7 (.inr hne5m)
        have hlt5 := ho5.lt
        have hblk5 : ∀ b, (Value.slice A5 (ps ++ [(x, Value.slice A3 x.length c3)]).length c5).ownBlock = some b → F b ∨ b = w3.heap.size + 1 := fun b hb => by
          rcases hat5 with h | h
          · exact .inl (f3 b (h.symm.trans hb))
          · rw [h] at hb
            injection hb with hb
            exact .inr (by rw [← hb]; simp)
        rw [hpl5] at ho7 hblk5 hlt5
        refine ⟨E3, fun b => F b ∨ (Value.slice A5 (ms.length + 1) c5).ownBlock = some b, by rw [hof]; rfl, x3.le, hE37, hbl7, ?_, fun b hb => ?_, fun b hb hf => ⟨hkeep b hb hf, fun h => hk3 b h (show b < w1.heap.size by omega)⟩⟩
        · rw [hof]
          refine ⟨_, mb, _, _, hB7, ho7, by simp [hps], fun p hp => ?_, by rw [List.length_append]; exact hown7, hM.put hmx, .inl f1, .inl f2, fun g hg => .inr hg, fun b hb => ?_⟩
          · rcases List.mem_append.1 hp with hp | hp
            · exact (hdr p hp).up x3.le
            · simp only [List.mem_singleton] at hp
              subst hp
              exact ⟨A3, c3, rfl, hr3, hz3⟩
          · rcases hb with hb | hb
            · exact ⟨(hlow b hb).1, by have := (hlow b hb).2.1; omega, hE3F b hb⟩
            · refine ⟨(hlt5 b hb).1, by have := (hlt5 b hb).2; omega, ?_⟩
              rcases hblk5 b hb with h | h
              · exact hE3F b h
              · exact x3.et.out (by omega)
        · rcases hb with hb | hb
          · exact .inl hb
          · rcases hblk5 b hb with h | h
            · exact .inl h
            · exact .inr (by omega)
end Go.Proofs.YtdnglhcconnocaaDoor
